/-
  Part 8 of the texts that lead to the theorem marketNested_card_holds: contracts of the functions that the law reaches.
-/
import Derived.Test.YtbnobbcpklcbgaaGreatDoorPartA6
import Derived.Test.YtbnobbcpklcbgaaGreatDoorProg
import Derived.WalkKit
import Derived.BigRegion
set_option linter.all false
set_option autoImplicit true
set_option relaxedAutoImplicit true
namespace Go.K
open Go Go.Proofs Go.RowKit
set_option maxRecDepth 100000 in
set_option maxHeartbeats 1600000 in
theorem swap_any (F g : Nat) (n cap : Nat) (i j : Int) (x y : Int) (w : World) (h0 : w.cell? ⟨F, 0, none⟩ = some (.slice (some ⟨g, 0, none⟩) n cap)) (hi0 : 0 ≤ i) (hi1 : i < (n:Int)) (hj0 : 0 ≤ j) (hj1 : j < (n:Int))
   (hx : w.cell? ⟨g, i.toNat, none⟩ = some (.int .i64 x)) (hy : w.cell? ⟨g, j.toNat, none⟩ = some (.int .i64 y)) (fx : w.frozen? ⟨g, i.toNat, none⟩ = false) (fy : w.frozen? ⟨g, j.toNat, none⟩ = false) (hne : ¬ F = g) :
    Calls Tryz.prog 443 #[.pointer (some ⟨F, 0, none⟩), .int .i64 i, .int .i64 j] w fun e w' => e = .returned (.tuple #[]) ∧ w' = ((w.setCell ⟨g, i.toNat, none⟩ (.int .i64 y)).setCell ⟨g, j.toNat, none⟩ (.int .i64 x)).drew := by
  obtain ⟨v', hy'⟩ := cell?_setCell_some (w := w) (p := ⟨g, i.toNat, none⟩) (x := .int .i64 y) (q := ⟨g, j.toNat, none⟩) (v := .int .i64 y) hy
  have hF : (w.setCell ⟨g, i.toNat, none⟩ (.int .i64 y)).cell? ⟨F, 0, none⟩ = some (.slice (some ⟨g, 0, none⟩) n cap) := by
    rw [World.cell?_setCell_other]; exact h0; intro e; injection e with e; exact hne e.symm
  go_enter Tryz.func443, Tryz.ntmps443
  go_wp2_with fail
  go_region
  go_end0
  exact ⟨rfl, rfl⟩
theorem Blk.drew {w : World} {b T : Nat} {cs : List Value} (h : Blk w b cs T) : Blk w.drew b cs T := h.heq rfl
def swapL (l : List Int) (i j : Nat) : List Int := (l.set i (l.getD j 0)).set j (l.getD i 0)
theorem swap_of {w : World} {F g cap i j : Nat} {l : List Int} {rest : List Value} {fb : Value} (hF : Blk w F [.slice (some ⟨g, 0, none⟩) l.length cap, fb] 246) (hb : Blk w g (nums l ++ rest) 3) (hi : i < l.length) (hj : j < l.length) :
    Ret Tryz.prog 443 #[.pointer (some ⟨F, 0, none⟩), .int .i64 ((i : Nat) : Int), .int .i64 ((j : Nat) : Int)] w fun v w' => v = .tuple #[] ∧ Blk w' g (nums (swapL l i j) ++ rest) 3 ∧ Only [g] w w' := by
  have gi : l[i]? = some (l.getD i 0) := by simp [hi]
  have gj : l[j]? = some (l.getD j 0) := by simp [hj]
  refine Calls.mono (swap_any F g l.length cap i j (l.getD i 0) (l.getD j 0) w ?_ (by omega) (by omega) (by omega) (by omega) ?_ ?_ ?_ ?_ ?_) ?_
  · rw [hF.cell]; rfl
  · rw [hb.cell]; exact nums_get rest gi
  · rw [hb.cell]; exact nums_get rest gj
  · exact hb.free _
  · exact hb.free _
  · exact Blk.ne hF hb rfl
  · rintro e w' ⟨rfl, rfl⟩
    have h1 := hb.setCell i (.int .i64 (l.getD j 0))
    rw [List.set_append_left _ _ (by rw [nums_len]; exact hi), nums_set] at h1
    have h2 := h1.setCell j (.int .i64 (l.getD i 0))
    rw [List.set_append_left _ _ (by rw [nums_len]; simpa using hj), nums_set] at h2
    refine ⟨_, rfl, rfl, h2.drew, ?_⟩
    exact (((Only.setCell w g i _).trans (Only.setCell _ g j _)).trans (Only.drew _)).sub (by simp)
theorem swapL_len (l : List Int) (i j : Nat) : (swapL l i j).length = l.length := by simp [swapL]
end Go.K

namespace Go.K
open Go.Proofs
theorem rows_of {w : World} {b : Nat} {v0 v1 v2 v3 v4 v5 v6 : Value} (hb : Blk w b [v0, v1, v2, v3, v4, v5, v6] 116) :
    Ret Tryz.prog 22 #[.pointer (some ⟨b, 0, none⟩)] w fun v w' => v = v3 ∧ w' = w := by
  refine enterL (args := [.pointer (some ⟨b, 0, none⟩)]) Tryz.func22 rfl rfl rfl ?_
  refine CW.seq fun K1 hK1 => ?_
  refine CW.region ?_
  refine WL.to (E' := [(0, .pointer (some ⟨b, 0, none⟩)), (2, .pointer none)]) 1 [0, 2] (by kernel_rfl) ?_
  refine WL.nil ?_
  refine hK1 _ _ _ ?_
  refine CW.seq fun K2 hK2 => ?_
  refine CW.region ?_
  refine WL.to (E' := [(2, .pointer none), (5, .pointer (some ⟨b, 3, none⟩))]) 3 [2, 5] (by kernel_rfl) ?_
  refine WL.load1 rfl agg63 rfl rfl hb rfl ?_
  refine WL.to (E' := [(2, v3)]) 1 [2] (by kernel_rfl) ?_
  refine WL.nil ?_
  refine hK2 _ _ _ ?_
  refine CW.ret fun a ha => ?_
  try simp (decide := true) only [Exit.inBlock, Exit.then, ↓reduceIte]
  exact fin ha.defers (res_tmp rfl ha rfl _) ⟨rfl, rfl⟩

theorem depth_of {w : World} {b : Nat} {v0 v1 v3 v4 : Value} {ao : Option Addr} {k cp : Nat} (hb : Blk w b [v0, v1, .slice ao k cp, v3, v4] 75) :
    Ret Tryz.prog 26 #[.pointer (some ⟨b, 0, none⟩)] w fun v w' => v = .int .i64 ((k : Nat) : Int) ∧ w' = w := by
  refine enterL (args := [.pointer (some ⟨b, 0, none⟩)]) Tryz.func26 rfl rfl rfl ?_
  refine CW.seq fun K1 hK1 => ?_
  refine CW.region ?_
  refine WL.to (E' := [(0, .pointer (some ⟨b, 0, none⟩)), (2, .int .i64 0)]) 1 [0, 2] (by kernel_rfl) ?_
  refine WL.nil ?_
  refine hK1 _ _ _ ?_
  refine CW.seq fun K2 hK2 => ?_
  refine CW.region ?_
  refine WL.to (E' := [(2, .int .i64 0), (5, .pointer (some ⟨b, 2, none⟩))]) 3 [2, 5] (by kernel_rfl) ?_
  refine WL.load1 rfl agg49 rfl rfl hb rfl ?_
  refine WL.to (E' := [(2, .int .i64 ((k : Nat) : Int))]) 2 [2] (by kernel_rfl) ?_
  refine WL.nil ?_
  refine hK2 _ _ _ ?_
  refine CW.ret fun a ha => ?_
  try simp (decide := true) only [Exit.inBlock, Exit.then, ↓reduceIte]
  exact fin ha.defers (res_tmp rfl ha rfl _) ⟨rfl, rfl⟩

theorem mark_of {w : World} {b : Nat} {ao : Option Addr} {k cp : Nat} (hb : Blk w b [.slice ao k cp] 126) :
    Ret Tryz.prog 38 #[.pointer (some ⟨b, 0, none⟩)] w fun v w' => v = .int .i64 ((k : Nat) : Int) ∧ w' = w := by
  refine enterL (args := [.pointer (some ⟨b, 0, none⟩)]) Tryz.func38 rfl rfl rfl ?_
  refine CW.seq fun K1 hK1 => ?_
  refine CW.region ?_
  refine WL.to (E' := [(0, .pointer (some ⟨b, 0, none⟩)), (2, .int .i64 0)]) 1 [0, 2] (by kernel_rfl) ?_
  refine WL.nil ?_
  refine hK1 _ _ _ ?_
  refine CW.seq fun K2 hK2 => ?_
  refine CW.region ?_
  refine WL.to (E' := [(2, .int .i64 0), (5, .pointer (some ⟨b, 0, none⟩))]) 3 [2, 5] (by kernel_rfl) ?_
  refine WL.load1 rfl agg124 rfl rfl hb rfl ?_
  refine WL.to (E' := [(2, .int .i64 ((k : Nat) : Int))]) 2 [2] (by kernel_rfl) ?_
  refine WL.nil ?_
  refine hK2 _ _ _ ?_
  refine CW.ret fun a ha => ?_
  try simp (decide := true) only [Exit.inBlock, Exit.then, ↓reduceIte]
  exact fin ha.defers (res_tmp rfl ha rfl _) ⟨rfl, rfl⟩

theorem loglen_of {w : World} {b : Nat} {ao : Option Addr} {k cp : Nat} (hb : Blk w b [.slice ao k cp] 126) :
    Ret Tryz.prog 50 #[.pointer (some ⟨b, 0, none⟩)] w fun v w' => v = .int .i64 ((k : Nat) : Int) ∧ w' = w := by
  refine enterL (args := [.pointer (some ⟨b, 0, none⟩)]) Tryz.func50 rfl rfl rfl ?_
  refine CW.seq fun K1 hK1 => ?_
  refine CW.region ?_
  refine WL.to (E' := [(0, .pointer (some ⟨b, 0, none⟩)), (2, .int .i64 0)]) 1 [0, 2] (by kernel_rfl) ?_
  refine WL.nil ?_
  refine hK1 _ _ _ ?_
  refine CW.seq fun K2 hK2 => ?_
  refine CW.region ?_
  refine WL.to (E' := [(2, .int .i64 0), (5, .pointer (some ⟨b, 0, none⟩))]) 3 [2, 5] (by kernel_rfl) ?_
  refine WL.load1 rfl agg124 rfl rfl hb rfl ?_
  refine WL.to (E' := [(2, .int .i64 ((k : Nat) : Int))]) 2 [2] (by kernel_rfl) ?_
  refine WL.nil ?_
  refine hK2 _ _ _ ?_
  refine CW.ret fun a ha => ?_
  try simp (decide := true) only [Exit.inBlock, Exit.then, ↓reduceIte]
  exact fin ha.defers (res_tmp rfl ha rfl _) ⟨rfl, rfl⟩

theorem next_of {w : World} {b : Nat} {v0 v1 v2 v3 v4 v5 : Value} (hb : Blk w b [v0, v1, v2, v3, v4, v5] 121) :
    Ret Tryz.prog 72 #[.pointer (some ⟨b, 0, none⟩)] w fun v w' => v = v4 ∧ w' = w := by
  refine enterL (args := [.pointer (some ⟨b, 0, none⟩)]) Tryz.func72 rfl rfl rfl ?_
  refine CW.seq fun K1 hK1 => ?_
  refine CW.region ?_
  refine WL.to (E' := [(0, .pointer (some ⟨b, 0, none⟩)), (2, .int .i64 0)]) 1 [0, 2] (by kernel_rfl) ?_
  refine WL.nil ?_
  refine hK1 _ _ _ ?_
  refine CW.seq fun K2 hK2 => ?_
  refine CW.region ?_
  refine WL.to (E' := [(2, .int .i64 0), (5, .pointer (some ⟨b, 4, none⟩))]) 3 [2, 5] (by kernel_rfl) ?_
  refine WL.load1 rfl agg2 rfl rfl hb rfl ?_
  refine WL.to (E' := [(2, v4)]) 1 [2] (by kernel_rfl) ?_
  refine WL.nil ?_
  refine hK2 _ _ _ ?_
  refine CW.ret fun a ha => ?_
  try simp (decide := true) only [Exit.inBlock, Exit.then, ↓reduceIte]
  exact fin ha.defers (res_tmp rfl ha rfl _) ⟨rfl, rfl⟩

theorem log_of {w : World} {m lg : Nat} {v0 v2 v3 v4 : Value} {ao : Option Addr} {k cp : Nat} (hm : Blk w m [v0, .pointer (some ⟨lg, 0, none⟩), v2, v3, v4] 75) (hl : Blk w lg [.slice ao k cp] 126) :
    Ret Tryz.prog 24 #[.pointer (some ⟨m, 0, none⟩)] w fun v w' => v = .int .i64 ((k : Nat) : Int) ∧ w' = w := by
  refine enterL (args := [.pointer (some ⟨m, 0, none⟩)]) Tryz.func24 rfl rfl rfl ?_
  refine CW.seq fun K1 hK1 => ?_
  refine CW.region ?_
  refine WL.to (E' := [(0, .pointer (some ⟨m, 0, none⟩)), (2, .int .i64 0)]) 1 [0, 2] (by kernel_rfl) ?_
  refine WL.nil ?_
  refine hK1 _ _ _ ?_
  refine CW.seq fun K2 hK2 => ?_
  refine CW.region ?_
  refine WL.to (E' := [(2, .int .i64 0), (5, .pointer (some ⟨m, 1, none⟩))]) 3 [2, 5] (by kernel_rfl) ?_
  refine WL.load1 rfl agg70 rfl rfl hm rfl ?_
  refine WL.callQ (v := .int .i64 ((k : Nat) : Int)) rfl rfl rfl rfl ent50 rfl (loglen_of hl) ?_
  refine WL.to (E' := [(2, .int .i64 ((k : Nat) : Int))]) 1 [2] (by kernel_rfl) ?_
  refine WL.nil ?_
  refine hK2 _ _ _ ?_
  refine CW.ret fun a ha => ?_
  try simp (decide := true) only [Exit.inBlock, Exit.then, ↓reduceIte]
  exact fin ha.defers (res_tmp rfl ha rfl _) ⟨rfl, rfl⟩

theorem login_of {w : World} {b : Nat} {ao : Option Addr} {k cp : Nat} {mk : Int} (hb : Blk w b [.slice ao k cp] 126) :
    Ret Tryz.prog 95 #[.pointer (some ⟨b, 0, none⟩), .int .i64 mk] w fun v w' => v = .bool (decide (0 ≤ mk ∧ mk ≤ k)) ∧ w' = w := by
  refine enterL (args := [.pointer (some ⟨b, 0, none⟩), .int .i64 mk]) Tryz.func95 rfl rfl rfl ?_
  refine CW.seq fun K1 hK1 => ?_
  refine CW.region ?_
  refine WL.to (E' := [(0, .pointer (some ⟨b, 0, none⟩)), (1, .int .i64 mk), (4, .bool false)]) 1 [0, 1, 4] (by kernel_rfl) ?_
  refine WL.nil ?_
  refine hK1 _ _ _ ?_
  refine CW.seq fun K2 hK2 => ?_
  refine CW.region ?_
  refine WL.to (E' := [(0, .pointer (some ⟨b, 0, none⟩)), (1, .int .i64 mk), (4, .bool false), (7, .bool (decide (mk ≥ 0)))]) 3 [0, 1, 4, 7] (by kernel_rfl) ?_
  cases c1 : (decide (mk ≥ 0))
  · skip
    refine WL.to (E' := [(4, .bool false)]) 9 [4] (by kernel_rfl) ?_
    refine WL.nil ?_
    refine hK2 _ _ _ ?_
    refine CW.ret fun a ha => ?_
    try simp (decide := true) only [Exit.inBlock, Exit.then, ↓reduceIte]
    exact fin ha.defers (res_tmp rfl ha rfl _) ⟨congrArg Value.bool (by simp only [decide_eq_false_iff_not, decide_eq_true_eq] at c1; rw [eq_comm, decide_eq_false_iff_not]; omega), rfl⟩
  · skip
    refine WL.to (E' := [(4, .bool false), (7, .bool true), (8, .int .i64 mk), (11, .pointer (some ⟨b, 0, none⟩))]) 4 [4, 7, 8, 11] (by kernel_rfl) ?_
    refine WL.load1 rfl agg124 rfl rfl hb rfl ?_
    refine WL.to (E' := [(4, .bool (decide (mk ≤ ((k : Nat) : Int))))]) 4 [4] (by kernel_rfl) ?_
    refine WL.nil ?_
    refine hK2 _ _ _ ?_
    refine CW.ret fun a ha => ?_
    try simp (decide := true) only [Exit.inBlock, Exit.then, ↓reduceIte]
    exact fin ha.defers (res_tmp rfl ha rfl _) ⟨congrArg Value.bool (by simp only [decide_eq_false_iff_not, decide_eq_true_eq] at c1; rw [decide_eq_decide]; omega), rfl⟩

theorem newlog {w : World} :
    Ret Tryz.prog 28 #[] w fun v w' => ∃ b, v = .pointer (some ⟨b, 0, none⟩) ∧ Blk w' b [.slice none 0 0] 126 ∧ Only [] w w' ∧ w.heap.size ≤ b := by
  refine enterL (args := []) Tryz.func28 rfl rfl rfl ?_
  refine CW.seq fun K1 hK1 => ?_
  refine CW.region ?_
  refine WL.to (E' := [(0, .pointer none)]) 1 [0] (by kernel_rfl) ?_
  refine WL.nil ?_
  refine hK1 _ _ _ ?_
  refine CW.seq fun K2 hK2 => ?_
  refine CW.region ?_
  refine WL.build (vs := []) (v := .agg #[.slice none 0 0]) rfl rfl rfl (by kernel_rfl) ?_
  refine WL.box (cs := [.slice none 0 0]) rfl rfl rfl rfl ?_
  intro w3 b4 h5 u6 g7
  refine WL.to (E' := [(0, .pointer (some ⟨b4, 0, none⟩))]) 1 [0] (by kernel_rfl) ?_
  refine WL.nil ?_
  refine hK2 _ _ _ ?_
  refine CW.ret fun a ha => ?_
  try simp (decide := true) only [Exit.inBlock, Exit.then, ↓reduceIte]
  exact fin ha.defers (res_tmp rfl ha rfl _) ⟨_, rfl, h5, u6, g7⟩

theorem newwatch {w : World} :
    Ret Tryz.prog 29 #[] w fun v w' => ∃ b, v = .pointer (some ⟨b, 0, none⟩) ∧ Blk w' b [.slice none 0 0, .int .i64 0] 129 ∧ Only [] w w' ∧ w.heap.size ≤ b := by
  refine enterL (args := []) Tryz.func29 rfl rfl rfl ?_
  refine CW.seq fun K1 hK1 => ?_
  refine CW.region ?_
  refine WL.to (E' := [(0, .pointer none)]) 1 [0] (by kernel_rfl) ?_
  refine WL.nil ?_
  refine hK1 _ _ _ ?_
  refine CW.seq fun K2 hK2 => ?_
  refine CW.region ?_
  refine WL.build (vs := []) (v := .agg #[.slice none 0 0, .int .i64 0]) rfl rfl rfl (by kernel_rfl) ?_
  refine WL.box (cs := [.slice none 0 0, .int .i64 0]) rfl rfl rfl rfl ?_
  intro w3 b4 h5 u6 g7
  refine WL.to (E' := [(0, .pointer (some ⟨b4, 0, none⟩))]) 1 [0] (by kernel_rfl) ?_
  refine WL.nil ?_
  refine hK2 _ _ _ ?_
  refine CW.ret fun a ha => ?_
  try simp (decide := true) only [Exit.inBlock, Exit.then, ↓reduceIte]
  exact fin ha.defers (res_tmp rfl ha rfl _) ⟨_, rfl, h5, u6, g7⟩

theorem newhub {w : World} :
    Ret Tryz.prog 34 #[] w fun v w' => ∃ b, v = .pointer (some ⟨b, 0, none⟩) ∧ Blk w' b [.slice none 0 0] 137 ∧ Only [] w w' ∧ w.heap.size ≤ b := by
  refine enterL (args := []) Tryz.func34 rfl rfl rfl ?_
  refine CW.seq fun K1 hK1 => ?_
  refine CW.region ?_
  refine WL.to (E' := [(0, .pointer none)]) 1 [0] (by kernel_rfl) ?_
  refine WL.nil ?_
  refine hK1 _ _ _ ?_
  refine CW.seq fun K2 hK2 => ?_
  refine CW.region ?_
  refine WL.build (vs := []) (v := .agg #[.slice none 0 0]) rfl rfl rfl (by kernel_rfl) ?_
  refine WL.box (cs := [.slice none 0 0]) rfl rfl rfl rfl ?_
  intro w3 b4 h5 u6 g7
  refine WL.to (E' := [(0, .pointer (some ⟨b4, 0, none⟩))]) 1 [0] (by kernel_rfl) ?_
  refine WL.nil ?_
  refine hK2 _ _ _ ?_
  refine CW.ret fun a ha => ?_
  try simp (decide := true) only [Exit.inBlock, Exit.then, ↓reduceIte]
  exact fin ha.defers (res_tmp rfl ha rfl _) ⟨_, rfl, h5, u6, g7⟩
end Go.K

namespace Go.K
open Go.Proofs
set_option maxRecDepth 8000
set_option maxHeartbeats 1000000
set_option linter.unusedSimpArgs false
set_option linter.unusedVariables false
theorem named_of {w : World} {c : UInt8} (hc : 97 ≤ c.toNat ∧ c.toNat ≤ 122) :
    Ret Tryz.prog 97 #[.string (⟨#[c]⟩)] w fun v w' => v = .bool true ∧ w' = w := by
  refine enterL (args := [.string (⟨#[c]⟩)]) Tryz.func97 rfl rfl rfl ?_
  refine CW.seq fun K1 hK1 => ?_
  refine CW.region ?_
  refine WL.to (E' := [(0, .string (⟨#[c]⟩)), (2, .bool false)]) 1 [0, 2] (by kernel_rfl) ?_
  refine WL.nil ?_
  refine hK1 _ _ _ ?_
  refine CW.seq fun K2 hK2 => ?_
  refine CW.seq fun K3 hK3 => ?_
  refine CW.region ?_
  refine WL.to (E' := [(0, .string (⟨#[c]⟩)), (2, .bool false), (6, .int .i64 1), (7, .int .i64 0)]) 3 [0, 2, 6, 7] (by kernel_rfl) ?_
  refine WL.nil ?_
  refine hK3 _ _ _ ?_
  refine CW.block ?_
  refine CW.round1 fun K4 hK4 => ?_
  refine CW.seq fun K5 hK5 => ?_
  refine CW.region ?_
  refine WL.to (E' := [(0, .string (⟨#[c]⟩)), (2, .bool false), (6, .int .i64 1), (7, .int .i64 0), (8, .bool true)]) 1 [0, 2, 6, 7, 8] (by kernel_rfl) ?_
  refine WL.nil ?_
  refine hK5 _ _ _ ?_
  refine CW.seq fun K6 hK6 => ?_
  refine CW.condT rfl ?_
  refine CW.skip ?_
  refine hK6 _ _ _ ?_
  refine CW.seq fun K7 hK7 => ?_
  refine CW.block ?_
  refine CW.seq fun K8 hK8 => ?_
  refine CW.region ?_
  refine WL.to (E' := [(0, .string (⟨#[c]⟩)), (2, .bool false), (6, .int .i64 1), (7, .int .i64 0), (8, .bool true), (9, .int .i64 0), (3, .int .i64 0)]) 2 [0, 2, 6, 7, 8, 9, 3] (by kernel_rfl) ?_
  refine WL.nil ?_
  refine hK8 _ _ _ ?_
  refine CW.seq fun K9 hK9 => ?_
  refine CW.region ?_
  refine WL.to (E' := [(0, .string (⟨#[c]⟩)), (2, .bool false), (6, .int .i64 1), (7, .int .i64 0), (8, .bool true), (9, .int .i64 0), (3, .int .i64 0), (10, .string (⟨#[c]⟩)), (11, .int .i64 0), (12, .int .u8 (c.toNat : Int)), (4, .int .u8 (c.toNat : Int))]) 4 [0, 2, 6, 7, 8, 9, 3, 10, 11, 12, 4] (by kernel_rfl) ?_
  refine WL.nil ?_
  refine hK9 _ _ _ ?_
  refine CW.seq fun K10 hK10 => ?_
  refine CW.region ?_
  refine WL.to (E' := [(0, .string (⟨#[c]⟩)), (2, .bool false), (6, .int .i64 1), (7, .int .i64 0), (8, .bool true), (9, .int .i64 0), (3, .int .i64 0), (10, .string (⟨#[c]⟩)), (11, .int .i64 0), (12, .int .u8 (c.toNat : Int)), (4, .int .u8 (c.toNat : Int)), (13, .int .u8 (c.toNat : Int)), (14, .bool (decide ((c.toNat : Int) ≥ 97))), (15, .bool (decide ((c.toNat : Int) ≥ 97)))]) 3 [0, 2, 6, 7, 8, 9, 3, 10, 11, 12, 4, 13, 14, 15] (by kernel_rfl) ?_
  refine WL.chg 15 (.bool true) rfl (congrArg Value.bool (decide_eq_true (by omega))) ?_
  refine WL.to (E' := [(0, .string (⟨#[c]⟩)), (2, .bool false), (6, .int .i64 1), (7, .int .i64 0), (8, .bool true), (9, .int .i64 0), (3, .int .i64 0), (10, .string (⟨#[c]⟩)), (11, .int .i64 0), (12, .int .u8 (c.toNat : Int)), (4, .int .u8 (c.toNat : Int)), (13, .int .u8 (c.toNat : Int)), (14, .bool (decide ((c.toNat : Int) ≥ 97))), (15, .bool true), (16, .int .u8 (c.toNat : Int)), (17, .bool (decide ((c.toNat : Int) ≤ 122))), (18, .bool (decide ((c.toNat : Int) ≤ 122))), (19, .bool (decide ((c.toNat : Int) ≤ 122)))]) 4 [0, 2, 6, 7, 8, 9, 3, 10, 11, 12, 4, 13, 14, 15, 16, 17, 18, 19] (by kernel_rfl) ?_
  refine WL.chg 19 (.bool true) rfl (congrArg Value.bool (decide_eq_true (by omega))) ?_
  refine WL.to (E' := [(0, .string (⟨#[c]⟩)), (2, .bool false), (6, .int .i64 1), (7, .int .i64 0), (8, .bool true), (9, .int .i64 0), (3, .int .i64 0), (10, .string (⟨#[c]⟩)), (11, .int .i64 0), (12, .int .u8 (c.toNat : Int)), (4, .int .u8 (c.toNat : Int)), (13, .int .u8 (c.toNat : Int)), (14, .bool (decide ((c.toNat : Int) ≥ 97))), (15, .bool true), (16, .int .u8 (c.toNat : Int)), (17, .bool (decide ((c.toNat : Int) ≤ 122))), (18, .bool (decide ((c.toNat : Int) ≤ 122))), (19, .bool true), (20, undef), (21, undef), (22, undef), (23, undef), (24, undef), (25, undef), (26, .bool true), (27, .bool true), (28, undef), (29, undef), (30, .bool true), (31, .bool false)]) 12 [0, 2, 6, 7, 8, 9, 3, 10, 11, 12, 4, 13, 14, 15, 16, 17, 18, 19, 20, 21, 22, 23, 24, 25, 26, 27, 28, 29, 30, 31] (by kernel_rfl) ?_
  refine WL.nil ?_
  refine hK10 _ _ _ ?_
  refine CW.condF rfl ?_
  refine CW.skip ?_
  refine hK7 _ _ _ ?_
  refine CW.region ?_
  refine WL.to (E' := [(0, .string (⟨#[c]⟩)), (2, .bool false), (6, .int .i64 1), (7, .int .i64 1), (8, .bool true), (9, .int .i64 0), (3, .int .i64 0), (10, .string (⟨#[c]⟩)), (11, .int .i64 0), (12, .int .u8 (c.toNat : Int)), (4, .int .u8 (c.toNat : Int)), (13, .int .u8 (c.toNat : Int)), (14, .bool (decide ((c.toNat : Int) ≥ 97))), (15, .bool true), (16, .int .u8 (c.toNat : Int)), (17, .bool (decide ((c.toNat : Int) ≤ 122))), (18, .bool (decide ((c.toNat : Int) ≤ 122))), (19, .bool true), (20, undef), (21, undef), (22, undef), (23, undef), (24, undef), (25, undef), (26, .bool true), (27, .bool true), (28, undef), (29, undef), (30, .bool true), (31, .bool false), (32, .int .i64 1)]) 2 [0, 2, 6, 7, 8, 9, 3, 10, 11, 12, 4, 13, 14, 15, 16, 17, 18, 19, 20, 21, 22, 23, 24, 25, 26, 27, 28, 29, 30, 31, 32] (by kernel_rfl) ?_
  refine WL.nil ?_
  refine hK4 _ _ ?_
  refine CL.round fun K11 hK11 => ?_
  refine CW.seq fun K12 hK12 => ?_
  refine CW.region ?_
  refine WL.to (E' := [(0, .string (⟨#[c]⟩)), (2, .bool false), (6, .int .i64 1), (7, .int .i64 1), (8, .bool false), (9, .int .i64 0), (3, .int .i64 0), (10, .string (⟨#[c]⟩)), (11, .int .i64 0), (12, .int .u8 (c.toNat : Int)), (4, .int .u8 (c.toNat : Int)), (13, .int .u8 (c.toNat : Int)), (14, .bool (decide ((c.toNat : Int) ≥ 97))), (15, .bool true), (16, .int .u8 (c.toNat : Int)), (17, .bool (decide ((c.toNat : Int) ≤ 122))), (18, .bool (decide ((c.toNat : Int) ≤ 122))), (19, .bool true), (20, undef), (21, undef), (22, undef), (23, undef), (24, undef), (25, undef), (26, .bool true), (27, .bool true), (28, undef), (29, undef), (30, .bool true), (31, .bool false), (32, .int .i64 1)]) 1 [0, 2, 6, 7, 8, 9, 3, 10, 11, 12, 4, 13, 14, 15, 16, 17, 18, 19, 20, 21, 22, 23, 24, 25, 26, 27, 28, 29, 30, 31, 32] (by kernel_rfl) ?_
  refine WL.nil ?_
  refine hK12 _ _ _ ?_
  refine CW.seq fun K13 hK13 => ?_
  refine CW.condF rfl ?_
  refine CW.exit ?_
  refine hK2 _ _ _ ?_
  refine CW.seq fun K14 hK14 => ?_
  refine CW.region ?_
  refine WL.to (E' := [(2, .bool true)]) 8 [2] (by kernel_rfl) ?_
  refine WL.nil ?_
  refine hK14 _ _ _ ?_
  refine CW.ret fun a ha => ?_
  try simp (decide := true) only [Exit.inBlock, Exit.then, ↓reduceIte]
  exact fin ha.defers (res_tmp rfl ha rfl _) ⟨rfl, rfl⟩

theorem kind1 {w : World} :
    Ret Tryz.prog 98 #[.int .i64 1] w fun v w' => v = .bool true ∧ w' = w := by
  refine enterL (args := [.int .i64 1]) Tryz.func98 rfl rfl rfl ?_
  refine CW.seq fun K1 hK1 => ?_
  refine CW.region ?_
  refine WL.to (E' := [(0, .int .i64 1), (2, .bool false)]) 1 [0, 2] (by kernel_rfl) ?_
  refine WL.nil ?_
  refine hK1 _ _ _ ?_
  refine CW.seq fun K2 hK2 => ?_
  refine CW.region ?_
  refine WL.to (E' := [(2, .bool true)]) 7 [2] (by kernel_rfl) ?_
  refine WL.nil ?_
  refine hK2 _ _ _ ?_
  refine CW.ret fun a ha => ?_
  try simp (decide := true) only [Exit.inBlock, Exit.then, ↓reduceIte]
  exact fin ha.defers (res_tmp rfl ha rfl _) ⟨rfl, rfl⟩

theorem ext174 (w : World) : (callFunc 174 #[.float .f64 0]).run Tryz.prog w = .ok (.value (.int .u64 0)) w := by kernel_rfl

theorem order0 {w : World} :
    Ret Tryz.prog 136 #[.float .f64 0] w fun v w' => v = .int .u64 9223372036854775808 ∧ w' = w := by
  refine enterL (args := [.float .f64 0]) Tryz.func136 rfl rfl rfl ?_
  refine CW.seq fun K1 hK1 => ?_
  refine CW.region ?_
  refine WL.to (E' := [(0, .float .f64 0), (2, .int .u64 0)]) 1 [0, 2] (by kernel_rfl) ?_
  refine WL.nil ?_
  refine hK1 _ _ _ ?_
  refine CW.seq fun K2 hK2 => ?_
  refine CW.region ?_
  refine WL.to (E' := [(2, .int .u64 0), (4, .float .f64 0)]) 1 [2, 4] (by kernel_rfl) ?_
  refine WL.ext (f := 174) (v := .int .u64 0) rfl rfl rfl rfl rfl ext174 ?_
  refine WL.to (E' := [(2, .int .u64 0), (3, .int .u64 0)]) 1 [2, 3] (by kernel_rfl) ?_
  refine WL.nil ?_
  refine hK2 _ _ _ ?_
  refine CW.seq fun K3 hK3 => ?_
  refine CW.seq fun K4 hK4 => ?_
  refine CW.region ?_
  refine WL.to (E' := [(2, .int .u64 0), (3, .int .u64 0), (6, .int .u64 0)]) 1 [2, 3, 6] (by kernel_rfl) ?_
  refine WL.binC (v := .int .u64 0) rfl rfl rfl rfl (fun _ => by kernel_rfl) ?_
  refine WL.to (E' := [(2, .int .u64 0), (3, .int .u64 0), (8, .bool false)]) 1 [2, 3, 8] (by kernel_rfl) ?_
  refine WL.nil ?_
  refine hK4 _ _ _ ?_
  refine CW.condF rfl ?_
  refine CW.skip ?_
  refine hK3 _ _ _ ?_
  refine CW.seq fun K5 hK5 => ?_
  refine CW.region ?_
  refine WL.to (E' := [(2, .int .u64 0), (11, .int .u64 0)]) 1 [2, 11] (by kernel_rfl) ?_
  refine WL.binC (v := .int .u64 9223372036854775808) rfl rfl rfl rfl (fun _ => by kernel_rfl) ?_
  refine WL.to (E' := [(2, .int .u64 9223372036854775808)]) 1 [2] (by kernel_rfl) ?_
  refine WL.nil ?_
  refine hK5 _ _ _ ?_
  refine CW.ret fun a ha => ?_
  try simp (decide := true) only [Exit.inBlock, Exit.then, ↓reduceIte]
  exact fin ha.defers (res_tmp rfl ha rfl _) ⟨rfl, rfl⟩

theorem isnum {w : World} {x : Int} :
    Ret Tryz.prog 105 #[.agg #[.int .i64 1, .int .i64 x, .string ByteArray.empty, .float .f64 0]] w fun v w' => v = .bool true ∧ Only [] w w' := by
  refine enterL (args := [.agg #[.int .i64 1, .int .i64 x, .string ByteArray.empty, .float .f64 0]]) Tryz.func105 rfl rfl rfl ?_
  refine CW.seq fun K1 hK1 => ?_
  refine CW.region ?_
  refine WL.box (cs := [.int .i64 1, .int .i64 x, .string ByteArray.empty, .float .f64 0]) rfl rfl rfl rfl ?_
  intro w2 b3 h4 u5 g6
  refine WL.to (E' := [(1, .pointer (some ⟨b3, 0, none⟩)), (2, .bool false)]) 1 [1, 2] (by kernel_rfl) ?_
  refine WL.nil ?_
  refine hK1 _ _ _ ?_
  refine CW.seq fun K7 hK7 => ?_
  refine CW.region ?_
  refine WL.to (E' := [(1, .pointer (some ⟨b3, 0, none⟩)), (2, .bool false), (4, .pointer (some ⟨b3, 3, none⟩))]) 1 [1, 2, 4] (by kernel_rfl) ?_
  refine WL.load1 rfl agg56 rfl rfl h4 rfl ?_
  refine WL.callQ (v := .int .u64 9223372036854775808) rfl rfl rfl rfl ent136 rfl (order0) ?_
  refine WL.to (E' := [(1, .pointer (some ⟨b3, 0, none⟩)), (2, .bool false), (3, .bool true)]) 2 [1, 2, 3] (by kernel_rfl) ?_
  refine WL.nil ?_
  refine hK7 _ _ _ ?_
  refine CW.seq fun K8 hK8 => ?_
  refine CW.seq fun K9 hK9 => ?_
  refine CW.region ?_
  refine WL.to (E' := [(1, .pointer (some ⟨b3, 0, none⟩)), (2, .bool false), (3, .bool true), (8, .pointer (some ⟨b3, 0, none⟩))]) 1 [1, 2, 3, 8] (by kernel_rfl) ?_
  refine WL.load1 rfl agg3 rfl rfl h4 rfl ?_
  refine WL.sub [(1, .pointer (some ⟨b3, 0, none⟩)), (2, .bool false), (3, .bool true), (9, .int .i64 1)] ⟨rfl, rfl, rfl, rfl, trivial⟩ ?_
  refine WL.nil ?_
  refine hK9 _ _ _ ?_
  refine CW.block ?_
  refine CW.seq fun K10 hK10 => ?_
  refine CW.region ?_
  refine WL.to (E' := [(1, .pointer (some ⟨b3, 0, none⟩)), (2, .bool false), (3, .bool true), (9, .int .i64 1), (10, .bool true)]) 2 [1, 2, 3, 9, 10] (by kernel_rfl) ?_
  refine WL.nil ?_
  refine hK10 _ _ _ ?_
  refine CW.condT rfl ?_
  refine CW.seq fun K11 hK11 => ?_
  refine CW.region ?_
  refine WL.to (E' := [(1, .pointer (some ⟨b3, 0, none⟩)), (2, .bool false), (3, .bool true), (9, .int .i64 1), (12, .pointer (some ⟨b3, 2, none⟩))]) 1 [1, 2, 3, 9, 12] (by kernel_rfl) ?_
  refine WL.load1 rfl agg9 rfl rfl h4 rfl ?_
  refine WL.to (E' := [(1, .pointer (some ⟨b3, 0, none⟩)), (2, .bool true), (3, .bool true), (9, .int .i64 1)]) 5 [1, 2, 3, 9] (by kernel_rfl) ?_
  refine WL.nil ?_
  refine hK11 _ _ _ ?_
  refine CW.ret fun a ha => ?_
  try simp (decide := true) only [Exit.inBlock, Exit.then, ↓reduceIte]
  exact fin ha.defers (res_tmp rfl ha rfl _) ⟨rfl, (u5.sub (by simp))⟩

theorem nameeq {w : World} {b : Nat} {x y : UInt8} (hb : Blk w b [.string ⟨#[y]⟩] 9) :
    Ret Tryz.prog 134 #[.agg #[.string (⟨#[x]⟩), .int .i64 1], .pointer (some ⟨b, 0, none⟩)] w fun v w' => v = .bool ((⟨#[x]⟩ : ByteArray).data.toList == (⟨#[y]⟩ : ByteArray).data.toList) ∧ Only [] w w' := by
  refine enterL (args := [.agg #[.string (⟨#[x]⟩), .int .i64 1], .pointer (some ⟨b, 0, none⟩)]) Tryz.func134 rfl rfl rfl ?_
  refine CW.seq fun K1 hK1 => ?_
  refine CW.region ?_
  refine WL.box (cs := [.string (⟨#[x]⟩), .int .i64 1]) rfl rfl rfl rfl ?_
  intro w2 b3 h4 u5 g6
  refine WL.to (E' := [(1, .pointer (some ⟨b, 0, none⟩)), (2, .pointer (some ⟨b3, 0, none⟩)), (3, .bool false)]) 1 [1, 2, 3] (by kernel_rfl) ?_
  refine WL.nil ?_
  refine hK1 _ _ _ ?_
  refine CW.seq fun K7 hK7 => ?_
  refine CW.region ?_
  refine WL.to (E' := [(1, .pointer (some ⟨b, 0, none⟩)), (3, .bool false), (4, .pointer (some ⟨b3, 0, none⟩))]) 1 [1, 3, 4] (by kernel_rfl) ?_
  refine WL.load1 rfl agg9 rfl rfl h4 rfl ?_
  have h8 := (hb.keep u5 nm0)
  refine WL.load1 rfl agg9 rfl rfl h8 rfl ?_
  refine WL.to (E' := [(3, .bool ((⟨#[x]⟩ : ByteArray).data.toList == (⟨#[y]⟩ : ByteArray).data.toList))]) 2 [3] (by kernel_rfl) ?_
  refine WL.nil ?_
  refine hK7 _ _ _ ?_
  refine CW.ret fun a ha => ?_
  try simp (decide := true) only [Exit.inBlock, Exit.then, ↓reduceIte]
  exact fin ha.defers (res_tmp rfl ha rfl _) ⟨rfl, (u5.sub (by simp))⟩

theorem index0 {w : World} {sh b cp : Nat} :
    Ret Tryz.prog 133 #[.slice (some ⟨sh, 0, none⟩) 0 cp, .func (.func 134) #[] #[.pointer (some ⟨b, 0, none⟩)]] w fun v w' => v = .int .i64 (-1) ∧ Only [] w w' := by
  refine enterL (args := [.slice (some ⟨sh, 0, none⟩) 0 cp, .func (.func 134) #[] #[.pointer (some ⟨b, 0, none⟩)]]) Tryz.func133 rfl rfl rfl ?_
  refine CW.seq fun K1 hK1 => ?_
  refine CW.region ?_
  refine WL.to (E' := [(0, .slice (some ⟨sh, 0, none⟩) 0 cp), (1, .func (.func 134) #[] #[.pointer (some ⟨b, 0, none⟩)]), (4, .int .i64 0)]) 1 [0, 1, 4] (by kernel_rfl) ?_
  refine WL.nil ?_
  refine hK1 _ _ _ ?_
  refine CW.seq fun K2 hK2 => ?_
  refine CW.seq fun K3 hK3 => ?_
  refine CW.region ?_
  refine WL.to (E' := [(0, .slice (some ⟨sh, 0, none⟩) 0 cp), (1, .func (.func 134) #[] #[.pointer (some ⟨b, 0, none⟩)]), (4, .int .i64 0), (7, .int .i64 0), (8, .int .i64 0)]) 3 [0, 1, 4, 7, 8] (by kernel_rfl) ?_
  refine WL.nil ?_
  refine hK3 _ _ _ ?_
  refine CW.block ?_
  refine CW.round1 fun K4 hK4 => ?_
  refine CW.seq fun K5 hK5 => ?_
  refine CW.region ?_
  refine WL.to (E' := [(0, .slice (some ⟨sh, 0, none⟩) 0 cp), (1, .func (.func 134) #[] #[.pointer (some ⟨b, 0, none⟩)]), (4, .int .i64 0), (7, .int .i64 0), (8, .int .i64 0), (9, .bool false)]) 1 [0, 1, 4, 7, 8, 9] (by kernel_rfl) ?_
  refine WL.nil ?_
  refine hK5 _ _ _ ?_
  refine CW.seq fun K6 hK6 => ?_
  refine CW.condF rfl ?_
  refine CW.exit ?_
  refine hK2 _ _ _ ?_
  refine CW.seq fun K7 hK7 => ?_
  refine CW.region ?_
  refine WL.to (E' := [(4, .int .i64 (-1))]) 1 [4] (by kernel_rfl) ?_
  refine WL.nil ?_
  refine hK7 _ _ _ ?_
  refine CW.ret fun a ha => ?_
  try simp (decide := true) only [Exit.inBlock, Exit.then, ↓reduceIte]
  exact fin ha.defers (res_tmp rfl ha rfl _) ⟨rfl, ((Only.refl [] _).sub (by simp))⟩

theorem index1 {w : World} {sh b cp : Nat} {rest : List Value} (hs : Blk w sh (.string (⟨#[97]⟩) :: .int .i64 1 :: .string (⟨#[98]⟩) :: .int .i64 1 :: rest) 51) (hb : Blk w b [.string (⟨#[98]⟩)] 9) :
    Ret Tryz.prog 133 #[.slice (some ⟨sh, 0, none⟩) 1 cp, .func (.func 134) #[] #[.pointer (some ⟨b, 0, none⟩)]] w fun v w' => v = .int .i64 (-1) ∧ Only [] w w' := by
  refine enterL (args := [.slice (some ⟨sh, 0, none⟩) 1 cp, .func (.func 134) #[] #[.pointer (some ⟨b, 0, none⟩)]]) Tryz.func133 rfl rfl rfl ?_
  refine CW.seq fun K1 hK1 => ?_
  refine CW.region ?_
  refine WL.to (E' := [(0, .slice (some ⟨sh, 0, none⟩) 1 cp), (1, .func (.func 134) #[] #[.pointer (some ⟨b, 0, none⟩)]), (4, .int .i64 0)]) 1 [0, 1, 4] (by kernel_rfl) ?_
  refine WL.nil ?_
  refine hK1 _ _ _ ?_
  refine CW.seq fun K2 hK2 => ?_
  refine CW.seq fun K3 hK3 => ?_
  refine CW.region ?_
  refine WL.to (E' := [(0, .slice (some ⟨sh, 0, none⟩) 1 cp), (1, .func (.func 134) #[] #[.pointer (some ⟨b, 0, none⟩)]), (4, .int .i64 0), (7, .int .i64 1), (8, .int .i64 0)]) 3 [0, 1, 4, 7, 8] (by kernel_rfl) ?_
  refine WL.nil ?_
  refine hK3 _ _ _ ?_
  refine CW.block ?_
  refine CW.round1 fun K4 hK4 => ?_
  refine CW.seq fun K5 hK5 => ?_
  refine CW.region ?_
  refine WL.to (E' := [(0, .slice (some ⟨sh, 0, none⟩) 1 cp), (1, .func (.func 134) #[] #[.pointer (some ⟨b, 0, none⟩)]), (4, .int .i64 0), (7, .int .i64 1), (8, .int .i64 0), (9, .bool true)]) 1 [0, 1, 4, 7, 8, 9] (by kernel_rfl) ?_
  refine WL.nil ?_
  refine hK5 _ _ _ ?_
  refine CW.seq fun K6 hK6 => ?_
  refine CW.condT rfl ?_
  refine CW.skip ?_
  refine hK6 _ _ _ ?_
  refine CW.seq fun K7 hK7 => ?_
  refine CW.block ?_
  refine CW.seq fun K8 hK8 => ?_
  refine CW.region ?_
  refine WL.to (E' := [(0, .slice (some ⟨sh, 0, none⟩) 1 cp), (1, .func (.func 134) #[] #[.pointer (some ⟨b, 0, none⟩)]), (4, .int .i64 0), (7, .int .i64 1), (8, .int .i64 0), (9, .bool true), (10, .int .i64 0), (5, .int .i64 0)]) 2 [0, 1, 4, 7, 8, 9, 10, 5] (by kernel_rfl) ?_
  refine WL.nil ?_
  refine hK8 _ _ _ ?_
  refine CW.seq fun K9 hK9 => ?_
  refine CW.region ?_
  refine WL.to (E' := [(0, .slice (some ⟨sh, 0, none⟩) 1 cp), (1, .func (.func 134) #[] #[.pointer (some ⟨b, 0, none⟩)]), (4, .int .i64 0), (7, .int .i64 1), (8, .int .i64 0), (9, .bool true), (10, .int .i64 0), (5, .int .i64 0), (11, .func (.func 134) #[] #[.pointer (some ⟨b, 0, none⟩)]), (12, .slice (some ⟨sh, 0, none⟩) 1 cp), (13, .int .i64 0)]) 3 [0, 1, 4, 7, 8, 9, 10, 5, 11, 12, 13] (by kernel_rfl) ?_
  refine WL.index rfl rfl Tryz.underlying29 siz51 rfl rfl (by decide) (by decide) ?_
  refine WL.loadN rfl agg51 siz51 rfl rfl hs rfl rfl ?_
  refine WL.call rfl rfl rfl rfl ent134 rfl (nameeq hb) ?_
  rintro _ w11 ⟨rfl, u10⟩
  refine WL.nil ?_
  refine hK9 _ _ _ ?_
  refine CW.condF rfl ?_
  refine CW.skip ?_
  refine hK7 _ _ _ ?_
  refine CW.region ?_
  refine WL.to (E' := [(0, .slice (some ⟨sh, 0, none⟩) 1 cp), (1, .func (.func 134) #[] #[.pointer (some ⟨b, 0, none⟩)]), (4, .int .i64 0), (7, .int .i64 1), (8, .int .i64 1), (9, .bool true), (10, .int .i64 0), (5, .int .i64 0), (11, .func (.func 134) #[] #[.pointer (some ⟨b, 0, none⟩)]), (12, .slice (some ⟨sh, 0, none⟩) 1 cp), (13, .int .i64 0), (14, .pointer (some ⟨sh, 0, none⟩)), (15, .agg #[.string (⟨#[97]⟩), .int .i64 1]), (16, .bool false), (18, .int .i64 1)]) 2 [0, 1, 4, 7, 8, 9, 10, 5, 11, 12, 13, 14, 15, 16, 18] (by kernel_rfl) ?_
  refine WL.nil ?_
  refine hK4 _ _ ?_
  refine CL.round fun K12 hK12 => ?_
  refine CW.seq fun K13 hK13 => ?_
  refine CW.region ?_
  refine WL.to (E' := [(0, .slice (some ⟨sh, 0, none⟩) 1 cp), (1, .func (.func 134) #[] #[.pointer (some ⟨b, 0, none⟩)]), (4, .int .i64 0), (7, .int .i64 1), (8, .int .i64 1), (9, .bool false), (10, .int .i64 0), (5, .int .i64 0), (11, .func (.func 134) #[] #[.pointer (some ⟨b, 0, none⟩)]), (12, .slice (some ⟨sh, 0, none⟩) 1 cp), (13, .int .i64 0), (14, .pointer (some ⟨sh, 0, none⟩)), (15, .agg #[.string (⟨#[97]⟩), .int .i64 1]), (16, .bool false), (18, .int .i64 1)]) 1 [0, 1, 4, 7, 8, 9, 10, 5, 11, 12, 13, 14, 15, 16, 18] (by kernel_rfl) ?_
  refine WL.nil ?_
  refine hK13 _ _ _ ?_
  refine CW.seq fun K14 hK14 => ?_
  refine CW.condF rfl ?_
  refine CW.exit ?_
  refine hK2 _ _ _ ?_
  refine CW.seq fun K15 hK15 => ?_
  refine CW.region ?_
  refine WL.to (E' := [(4, .int .i64 (-1))]) 1 [4] (by kernel_rfl) ?_
  refine WL.nil ?_
  refine hK15 _ _ _ ?_
  refine CW.ret fun a ha => ?_
  try simp (decide := true) only [Exit.inBlock, Exit.then, ↓reduceIte]
  exact fin ha.defers (res_tmp rfl ha rfl _) ⟨rfl, (u10.sub (by simp))⟩

theorem field0 {w : World} {sh cp : Nat} {y : UInt8} :
    Ret Tryz.prog 96 #[.slice (some ⟨sh, 0, none⟩) 0 cp, .string (⟨#[y]⟩)] w fun v w' => v = .tuple #[.int .i64 0, .bool false] ∧ Only [] w w' := by
  refine enterL (args := [.slice (some ⟨sh, 0, none⟩) 0 cp, .string (⟨#[y]⟩)]) Tryz.func96 rfl rfl rfl ?_
  refine CW.seq fun K1 hK1 => ?_
  refine CW.region ?_
  refine WL.box (cs := [.string (⟨#[y]⟩)]) rfl rfl rfl rfl ?_
  intro w2 b3 h4 u5 g6
  refine WL.to (E' := [(0, .slice (some ⟨sh, 0, none⟩) 0 cp), (3, .pointer (some ⟨b3, 0, none⟩)), (4, .int .i64 0), (5, .bool false)]) 2 [0, 3, 4, 5] (by kernel_rfl) ?_
  refine WL.nil ?_
  refine hK1 _ _ _ ?_
  refine CW.seq fun K7 hK7 => ?_
  refine CW.region ?_
  refine WL.to (E' := [(4, .int .i64 0), (5, .bool false), (7, .slice (some ⟨sh, 0, none⟩) 0 cp), (8, .func (.func 134) #[] #[.pointer (some ⟨b3, 0, none⟩)])]) 2 [4, 5, 7, 8] (by kernel_rfl) ?_
  refine WL.call rfl rfl rfl rfl ent133 rfl (index0) ?_
  rintro _ w9 ⟨rfl, u8⟩
  refine WL.to (E' := [(4, .int .i64 0), (5, .bool false), (6, .int .i64 (-1))]) 1 [4, 5, 6] (by kernel_rfl) ?_
  refine WL.nil ?_
  refine hK7 _ _ _ ?_
  refine CW.seq fun K10 hK10 => ?_
  refine CW.region ?_
  refine WL.to (E' := [(4, .int .i64 0), (5, .bool false)]) 6 [4, 5] (by kernel_rfl) ?_
  refine WL.nil ?_
  refine hK10 _ _ _ ?_
  refine CW.ret fun a ha => ?_
  try simp (decide := true) only [Exit.inBlock, Exit.then, ↓reduceIte]
  exact fin ha.defers (res_tmp2 rfl ha rfl rfl _) ⟨rfl, ((u5.trans u8).sub (by simp))⟩

theorem field1 {w : World} {sh cp : Nat} {rest : List Value} (hs : Blk w sh (.string (⟨#[97]⟩) :: .int .i64 1 :: .string (⟨#[98]⟩) :: .int .i64 1 :: rest) 51) :
    Ret Tryz.prog 96 #[.slice (some ⟨sh, 0, none⟩) 1 cp, .string (⟨#[98]⟩)] w fun v w' => v = .tuple #[.int .i64 0, .bool false] ∧ Only [] w w' := by
  refine enterL (args := [.slice (some ⟨sh, 0, none⟩) 1 cp, .string (⟨#[98]⟩)]) Tryz.func96 rfl rfl rfl ?_
  refine CW.seq fun K1 hK1 => ?_
  refine CW.region ?_
  refine WL.box (cs := [.string (⟨#[98]⟩)]) rfl rfl rfl rfl ?_
  intro w2 b3 h4 u5 g6
  refine WL.to (E' := [(0, .slice (some ⟨sh, 0, none⟩) 1 cp), (3, .pointer (some ⟨b3, 0, none⟩)), (4, .int .i64 0), (5, .bool false)]) 2 [0, 3, 4, 5] (by kernel_rfl) ?_
  refine WL.nil ?_
  refine hK1 _ _ _ ?_
  refine CW.seq fun K7 hK7 => ?_
  refine CW.region ?_
  refine WL.to (E' := [(4, .int .i64 0), (5, .bool false), (7, .slice (some ⟨sh, 0, none⟩) 1 cp), (8, .func (.func 134) #[] #[.pointer (some ⟨b3, 0, none⟩)])]) 2 [4, 5, 7, 8] (by kernel_rfl) ?_
  have h8 := (hs.keep u5 nm0)
  refine WL.call rfl rfl rfl rfl ent133 rfl (index1 h8 h4) ?_
  rintro _ w10 ⟨rfl, u9⟩
  refine WL.to (E' := [(4, .int .i64 0), (5, .bool false), (6, .int .i64 (-1))]) 1 [4, 5, 6] (by kernel_rfl) ?_
  refine WL.nil ?_
  refine hK7 _ _ _ ?_
  refine CW.seq fun K11 hK11 => ?_
  refine CW.region ?_
  refine WL.to (E' := [(4, .int .i64 0), (5, .bool false)]) 6 [4, 5] (by kernel_rfl) ?_
  refine WL.nil ?_
  refine hK11 _ _ _ ?_
  refine CW.ret fun a ha => ?_
  try simp (decide := true) only [Exit.inBlock, Exit.then, ↓reduceIte]
  exact fin ha.defers (res_tmp2 rfl ha rfl rfl _) ⟨rfl, ((u5.trans u9).sub (by simp))⟩

theorem shape1 {w : World} {sh cp : Nat} {rest : List Value} {c : UInt8} (hc : 97 ≤ c.toNat ∧ c.toNat ≤ 122) (hcp : 1 ≤ cp) (hs : Blk w sh (.string (⟨#[c]⟩) :: .int .i64 1 :: rest) 51) :
    Ret Tryz.prog 55 #[.slice (some ⟨sh, 0, none⟩) 1 cp] w fun v w' => v = .bool true ∧ Only [] w w' := by
  refine enterL (args := [.slice (some ⟨sh, 0, none⟩) 1 cp]) Tryz.func55 rfl rfl rfl ?_
  refine CW.seq fun K1 hK1 => ?_
  refine CW.region ?_
  refine WL.to (E' := [(0, .slice (some ⟨sh, 0, none⟩) 1 cp), (2, .bool false)]) 1 [0, 2] (by kernel_rfl) ?_
  refine WL.nil ?_
  refine hK1 _ _ _ ?_
  refine CW.seq fun K2 hK2 => ?_
  refine CW.seq fun K3 hK3 => ?_
  refine CW.region ?_
  refine WL.to (E' := [(0, .slice (some ⟨sh, 0, none⟩) 1 cp), (2, .bool false), (7, .slice (some ⟨sh, 0, none⟩) 1 cp), (8, .int .i64 1), (9, .int .i64 0)]) 3 [0, 2, 7, 8, 9] (by kernel_rfl) ?_
  refine WL.nil ?_
  refine hK3 _ _ _ ?_
  refine CW.block ?_
  refine CW.round1 fun K4 hK4 => ?_
  refine CW.seq fun K5 hK5 => ?_
  refine CW.region ?_
  refine WL.to (E' := [(0, .slice (some ⟨sh, 0, none⟩) 1 cp), (2, .bool false), (7, .slice (some ⟨sh, 0, none⟩) 1 cp), (8, .int .i64 1), (9, .int .i64 0), (10, .bool true)]) 1 [0, 2, 7, 8, 9, 10] (by kernel_rfl) ?_
  refine WL.nil ?_
  refine hK5 _ _ _ ?_
  refine CW.seq fun K6 hK6 => ?_
  refine CW.condT rfl ?_
  refine CW.skip ?_
  refine hK6 _ _ _ ?_
  refine CW.seq fun K7 hK7 => ?_
  refine CW.block ?_
  refine CW.seq fun K8 hK8 => ?_
  refine CW.region ?_
  refine WL.to (E' := [(0, .slice (some ⟨sh, 0, none⟩) 1 cp), (2, .bool false), (7, .slice (some ⟨sh, 0, none⟩) 1 cp), (8, .int .i64 1), (9, .int .i64 0), (10, .bool true), (11, .int .i64 0)]) 1 [0, 2, 7, 8, 9, 10, 11] (by kernel_rfl) ?_
  refine WL.index rfl rfl Tryz.underlying29 siz51 rfl rfl (by decide) (by decide) ?_
  refine WL.loadN rfl agg51 siz51 rfl rfl hs rfl rfl ?_
  refine WL.alloc (cs := [.string ByteArray.empty, .int .i64 0]) rfl rfl zer51 rfl ?_
  intro w9 b10 h11 u12 g13
  refine WL.to (E' := [(0, .slice (some ⟨sh, 0, none⟩) 1 cp), (2, .bool false), (7, .slice (some ⟨sh, 0, none⟩) 1 cp), (8, .int .i64 1), (9, .int .i64 0), (10, .bool true), (11, .int .i64 0), (12, .pointer (some ⟨sh, 0, none⟩)), (13, .agg #[.string (⟨#[c]⟩), .int .i64 1]), (4, .pointer (some ⟨b10, 0, none⟩)), (3, .int .i64 0)]) 1 [0, 2, 7, 8, 9, 10, 11, 12, 13, 4, 3] (by kernel_rfl) ?_
  refine WL.storeN rfl siz51 rfl rfl rfl rfl h11 (Nat.le_of_ble_eq_true rfl) ?_
  intro w14 h15 u16 z17
  refine WL.nil ?_
  refine hK8 _ _ _ ?_
  refine CW.seq fun K18 hK18 => ?_
  refine CW.mixed (by kernel_rfl) ?_
  intro w19 e21 u20
  refine MX.to (f := 8) (L' := #[true, true, false, true, false, false, false, false, false, false, false]) (E' := [(0, .slice (some ⟨sh, 0, none⟩) 1 cp), (2, .bool false), (7, .slice (some ⟨sh, 0, none⟩) 1 cp), (8, .int .i64 1), (9, .int .i64 0), (10, .bool true), (11, .int .i64 0), (12, .pointer (some ⟨sh, 0, none⟩)), (13, .agg #[.string (⟨#[c]⟩), .int .i64 1]), (4, .pointer (some ⟨b10, 0, none⟩)), (3, .int .i64 0), (15, .slice (some ⟨sh, 0, none⟩) 1 cp), (16, .int .i64 0), (18, .pointer (some ⟨b10, 0, none⟩))]) [0, 1, 3] [0, 2, 7, 8, 9, 10, 11, 12, 13, 4, 3, 15, 16, 18] rfl (by kernel_rfl) ?_
  refine MX.sliceHi (L' := #[true, true, true, true, false, false, false, false, false, false, false]) 2 (by kernel_rfl) rfl rfl rfl rfl Tryz.underlying29 siz51 rfl rfl (by decide) (by omega) ?_
  have h22 := (h15.keep u20 nm0)
  refine MX.load1 (L' := #[true, true, true, true, true, false, false, false, false, false, false]) 4 (by kernel_rfl) rfl rfl rfl agg9 rfl rfl h22 rfl ?_
  refine MX.loud 5 (by kernel_rfl) rfl (fun K23 hK23 => ?_) rfl
  refine WL.call rfl rfl rfl rfl ent96 rfl (field0) ?_
  rintro _ w25 ⟨rfl, u24⟩
  refine WL.fin (L' := #[true, true, true, true, true, true, false, false, false, false, false]) hK23 (stY (by kernel_rfl) (stY (by kernel_rfl) st0)) ?_
  refine MX.to (f := 0) (L' := #[true, true, true, true, true, true, true, true, true, true, true]) (E' := [(0, .slice (some ⟨sh, 0, none⟩) 1 cp), (2, .bool false), (7, .slice (some ⟨sh, 0, none⟩) 1 cp), (8, .int .i64 1), (9, .int .i64 0), (10, .bool true), (11, .int .i64 0), (12, .pointer (some ⟨sh, 0, none⟩)), (13, .agg #[.string (⟨#[c]⟩), .int .i64 1]), (4, .pointer (some ⟨b10, 0, none⟩)), (3, .int .i64 0), (15, .slice (some ⟨sh, 0, none⟩) 1 cp), (16, .int .i64 0), (18, .pointer (some ⟨b10, 0, none⟩)), (17, .slice (some ⟨sh, 0, none⟩) 0 cp), (19, .string (⟨#[c]⟩)), (20, .tuple #[.int .i64 0, .bool false]), (14, .tuple #[.int .i64 0, .bool false]), (21, .int .i64 0), (22, .bool false), (6, .bool false)]) [6, 7, 8, 9, 10] [0, 2, 7, 8, 9, 10, 11, 12, 13, 4, 3, 15, 16, 18, 17, 19, 20, 14, 21, 22, 6] rfl (by kernel_rfl) ?_
  refine MX.done (by kernel_rfl) ?_
  refine hK18 _ _ _ ?_
  refine CW.seq fun K26 hK26 => ?_
  refine CW.region ?_
  refine WL.to (E' := [(0, .slice (some ⟨sh, 0, none⟩) 1 cp), (2, .bool false), (7, .slice (some ⟨sh, 0, none⟩) 1 cp), (8, .int .i64 1), (9, .int .i64 0), (10, .bool true), (11, .int .i64 0), (12, .pointer (some ⟨sh, 0, none⟩)), (13, .agg #[.string (⟨#[c]⟩), .int .i64 1]), (4, .pointer (some ⟨b10, 0, none⟩)), (3, .int .i64 0), (15, .slice (some ⟨sh, 0, none⟩) 1 cp), (16, .int .i64 0), (18, .pointer (some ⟨b10, 0, none⟩)), (17, .slice (some ⟨sh, 0, none⟩) 0 cp), (19, .string (⟨#[c]⟩)), (20, .tuple #[.int .i64 0, .bool false]), (14, .tuple #[.int .i64 0, .bool false]), (21, .int .i64 0), (22, .bool false), (6, .bool false), (23, .bool false), (24, .bool false), (25, .pointer (some ⟨b10, 0, none⟩))]) 3 [0, 2, 7, 8, 9, 10, 11, 12, 13, 4, 3, 15, 16, 18, 17, 19, 20, 14, 21, 22, 6, 23, 24, 25] (by kernel_rfl) ?_
  have h27 := (h22.keep u24 nm0)
  refine WL.load1 rfl agg9 rfl rfl h27 rfl ?_
  refine WL.callQ (v := .bool true) rfl rfl rfl rfl ent97 rfl (named_of hc) ?_
  refine WL.to (E' := [(0, .slice (some ⟨sh, 0, none⟩) 1 cp), (2, .bool false), (7, .slice (some ⟨sh, 0, none⟩) 1 cp), (8, .int .i64 1), (9, .int .i64 0), (10, .bool true), (11, .int .i64 0), (12, .pointer (some ⟨sh, 0, none⟩)), (13, .agg #[.string (⟨#[c]⟩), .int .i64 1]), (4, .pointer (some ⟨b10, 0, none⟩)), (3, .int .i64 0), (15, .slice (some ⟨sh, 0, none⟩) 1 cp), (16, .int .i64 0), (18, .pointer (some ⟨b10, 0, none⟩)), (17, .slice (some ⟨sh, 0, none⟩) 0 cp), (19, .string (⟨#[c]⟩)), (20, .tuple #[.int .i64 0, .bool false]), (14, .tuple #[.int .i64 0, .bool false]), (21, .int .i64 0), (22, .bool false), (6, .bool false), (23, .bool false), (24, .bool false), (25, .pointer (some ⟨b10, 0, none⟩)), (26, .string (⟨#[c]⟩)), (27, .bool true), (28, .bool false), (29, .bool false), (30, .bool false), (31, .pointer (some ⟨b10, 1, none⟩))]) 4 [0, 2, 7, 8, 9, 10, 11, 12, 13, 4, 3, 15, 16, 18, 17, 19, 20, 14, 21, 22, 6, 23, 24, 25, 26, 27, 28, 29, 30, 31] (by kernel_rfl) ?_
  refine WL.load1 rfl agg3 rfl rfl h27 rfl ?_
  refine WL.callQ (v := .bool true) rfl rfl rfl rfl ent98 rfl (kind1) ?_
  refine WL.to (E' := [(0, .slice (some ⟨sh, 0, none⟩) 1 cp), (2, .bool false), (7, .slice (some ⟨sh, 0, none⟩) 1 cp), (8, .int .i64 1), (9, .int .i64 0), (10, .bool true), (11, .int .i64 0), (12, .pointer (some ⟨sh, 0, none⟩)), (13, .agg #[.string (⟨#[c]⟩), .int .i64 1]), (4, .pointer (some ⟨b10, 0, none⟩)), (3, .int .i64 0), (15, .slice (some ⟨sh, 0, none⟩) 1 cp), (16, .int .i64 0), (18, .pointer (some ⟨b10, 0, none⟩)), (17, .slice (some ⟨sh, 0, none⟩) 0 cp), (19, .string (⟨#[c]⟩)), (20, .tuple #[.int .i64 0, .bool false]), (14, .tuple #[.int .i64 0, .bool false]), (21, .int .i64 0), (22, .bool false), (6, .bool false), (23, .bool false), (24, .bool false), (25, .pointer (some ⟨b10, 0, none⟩)), (26, .string (⟨#[c]⟩)), (27, .bool true), (28, .bool false), (29, .bool false), (30, .bool false), (31, .pointer (some ⟨b10, 1, none⟩)), (32, .int .i64 1), (33, .bool true), (34, .bool false), (35, .bool false)]) 2 [0, 2, 7, 8, 9, 10, 11, 12, 13, 4, 3, 15, 16, 18, 17, 19, 20, 14, 21, 22, 6, 23, 24, 25, 26, 27, 28, 29, 30, 31, 32, 33, 34, 35] (by kernel_rfl) ?_
  refine WL.nil ?_
  refine hK26 _ _ _ ?_
  refine CW.condF rfl ?_
  refine CW.skip ?_
  refine hK7 _ _ _ ?_
  refine CW.region ?_
  refine WL.to (E' := [(0, .slice (some ⟨sh, 0, none⟩) 1 cp), (2, .bool false), (7, .slice (some ⟨sh, 0, none⟩) 1 cp), (8, .int .i64 1), (9, .int .i64 1), (10, .bool true), (11, .int .i64 0), (12, .pointer (some ⟨sh, 0, none⟩)), (13, .agg #[.string (⟨#[c]⟩), .int .i64 1]), (4, .pointer (some ⟨b10, 0, none⟩)), (3, .int .i64 0), (15, .slice (some ⟨sh, 0, none⟩) 1 cp), (16, .int .i64 0), (18, .pointer (some ⟨b10, 0, none⟩)), (17, .slice (some ⟨sh, 0, none⟩) 0 cp), (19, .string (⟨#[c]⟩)), (20, .tuple #[.int .i64 0, .bool false]), (14, .tuple #[.int .i64 0, .bool false]), (21, .int .i64 0), (22, .bool false), (6, .bool false), (23, .bool false), (24, .bool false), (25, .pointer (some ⟨b10, 0, none⟩)), (26, .string (⟨#[c]⟩)), (27, .bool true), (28, .bool false), (29, .bool false), (30, .bool false), (31, .pointer (some ⟨b10, 1, none⟩)), (32, .int .i64 1), (33, .bool true), (34, .bool false), (35, .bool false), (36, .int .i64 1)]) 2 [0, 2, 7, 8, 9, 10, 11, 12, 13, 4, 3, 15, 16, 18, 17, 19, 20, 14, 21, 22, 6, 23, 24, 25, 26, 27, 28, 29, 30, 31, 32, 33, 34, 35, 36] (by kernel_rfl) ?_
  refine WL.nil ?_
  refine hK4 _ _ ?_
  refine CL.round fun K28 hK28 => ?_
  refine CW.seq fun K29 hK29 => ?_
  refine CW.region ?_
  refine WL.to (E' := [(0, .slice (some ⟨sh, 0, none⟩) 1 cp), (2, .bool false), (7, .slice (some ⟨sh, 0, none⟩) 1 cp), (8, .int .i64 1), (9, .int .i64 1), (10, .bool false), (11, .int .i64 0), (12, .pointer (some ⟨sh, 0, none⟩)), (13, .agg #[.string (⟨#[c]⟩), .int .i64 1]), (4, .pointer (some ⟨b10, 0, none⟩)), (3, .int .i64 0), (15, .slice (some ⟨sh, 0, none⟩) 1 cp), (16, .int .i64 0), (18, .pointer (some ⟨b10, 0, none⟩)), (17, .slice (some ⟨sh, 0, none⟩) 0 cp), (19, .string (⟨#[c]⟩)), (20, .tuple #[.int .i64 0, .bool false]), (14, .tuple #[.int .i64 0, .bool false]), (21, .int .i64 0), (22, .bool false), (6, .bool false), (23, .bool false), (24, .bool false), (25, .pointer (some ⟨b10, 0, none⟩)), (26, .string (⟨#[c]⟩)), (27, .bool true), (28, .bool false), (29, .bool false), (30, .bool false), (31, .pointer (some ⟨b10, 1, none⟩)), (32, .int .i64 1), (33, .bool true), (34, .bool false), (35, .bool false), (36, .int .i64 1)]) 1 [0, 2, 7, 8, 9, 10, 11, 12, 13, 4, 3, 15, 16, 18, 17, 19, 20, 14, 21, 22, 6, 23, 24, 25, 26, 27, 28, 29, 30, 31, 32, 33, 34, 35, 36] (by kernel_rfl) ?_
  refine WL.nil ?_
  refine hK29 _ _ _ ?_
  refine CW.seq fun K30 hK30 => ?_
  refine CW.condF rfl ?_
  refine CW.exit ?_
  refine hK2 _ _ _ ?_
  refine CW.seq fun K31 hK31 => ?_
  refine CW.region ?_
  refine WL.to (E' := [(2, .bool true)]) 9 [2] (by kernel_rfl) ?_
  refine WL.nil ?_
  refine hK31 _ _ _ ?_
  refine CW.ret fun a ha => ?_
  try simp (decide := true) only [Exit.inBlock, Exit.then, ↓reduceIte]
  exact fin ha.defers (res_tmp rfl ha rfl _) ⟨rfl, ((((u12.trans u16).trans u20).trans u24).sub (by intro k hk hl; simp only [Value.ownBlock, Option.toList, List.mem_append, List.mem_cons, List.not_mem_nil, or_false, false_or] at hk; have := g13; have := u12.size; have := u16.size; have := u20.size; have := u24.size; omega))⟩

theorem shape2 {w : World} {sh cp : Nat} {rest : List Value} (hcp : 2 ≤ cp) (hs : Blk w sh (.string (⟨#[97]⟩) :: .int .i64 1 :: .string (⟨#[98]⟩) :: .int .i64 1 :: rest) 51) :
    Ret Tryz.prog 55 #[.slice (some ⟨sh, 0, none⟩) 2 cp] w fun v w' => v = .bool true ∧ Only [] w w' := by
  refine enterL (args := [.slice (some ⟨sh, 0, none⟩) 2 cp]) Tryz.func55 rfl rfl rfl ?_
  refine CW.seq fun K1 hK1 => ?_
  refine CW.region ?_
  refine WL.to (E' := [(0, .slice (some ⟨sh, 0, none⟩) 2 cp), (2, .bool false)]) 1 [0, 2] (by kernel_rfl) ?_
  refine WL.nil ?_
  refine hK1 _ _ _ ?_
  refine CW.seq fun K2 hK2 => ?_
  refine CW.seq fun K3 hK3 => ?_
  refine CW.region ?_
  refine WL.to (E' := [(0, .slice (some ⟨sh, 0, none⟩) 2 cp), (2, .bool false), (7, .slice (some ⟨sh, 0, none⟩) 2 cp), (8, .int .i64 2), (9, .int .i64 0)]) 3 [0, 2, 7, 8, 9] (by kernel_rfl) ?_
  refine WL.nil ?_
  refine hK3 _ _ _ ?_
  refine CW.block ?_
  refine CW.round1 fun K4 hK4 => ?_
  refine CW.seq fun K5 hK5 => ?_
  refine CW.region ?_
  refine WL.to (E' := [(0, .slice (some ⟨sh, 0, none⟩) 2 cp), (2, .bool false), (7, .slice (some ⟨sh, 0, none⟩) 2 cp), (8, .int .i64 2), (9, .int .i64 0), (10, .bool true)]) 1 [0, 2, 7, 8, 9, 10] (by kernel_rfl) ?_
  refine WL.nil ?_
  refine hK5 _ _ _ ?_
  refine CW.seq fun K6 hK6 => ?_
  refine CW.condT rfl ?_
  refine CW.skip ?_
  refine hK6 _ _ _ ?_
  refine CW.seq fun K7 hK7 => ?_
  refine CW.block ?_
  refine CW.seq fun K8 hK8 => ?_
  refine CW.region ?_
  refine WL.to (E' := [(0, .slice (some ⟨sh, 0, none⟩) 2 cp), (2, .bool false), (7, .slice (some ⟨sh, 0, none⟩) 2 cp), (8, .int .i64 2), (9, .int .i64 0), (10, .bool true), (11, .int .i64 0)]) 1 [0, 2, 7, 8, 9, 10, 11] (by kernel_rfl) ?_
  refine WL.index rfl rfl Tryz.underlying29 siz51 rfl rfl (by decide) (by decide) ?_
  refine WL.loadN rfl agg51 siz51 rfl rfl hs rfl rfl ?_
  refine WL.alloc (cs := [.string ByteArray.empty, .int .i64 0]) rfl rfl zer51 rfl ?_
  intro w9 b10 h11 u12 g13
  refine WL.to (E' := [(0, .slice (some ⟨sh, 0, none⟩) 2 cp), (2, .bool false), (7, .slice (some ⟨sh, 0, none⟩) 2 cp), (8, .int .i64 2), (9, .int .i64 0), (10, .bool true), (11, .int .i64 0), (12, .pointer (some ⟨sh, 0, none⟩)), (13, .agg #[.string (⟨#[97]⟩), .int .i64 1]), (4, .pointer (some ⟨b10, 0, none⟩)), (3, .int .i64 0)]) 1 [0, 2, 7, 8, 9, 10, 11, 12, 13, 4, 3] (by kernel_rfl) ?_
  refine WL.storeN rfl siz51 rfl rfl rfl rfl h11 (Nat.le_of_ble_eq_true rfl) ?_
  intro w14 h15 u16 z17
  refine WL.nil ?_
  refine hK8 _ _ _ ?_
  refine CW.seq fun K18 hK18 => ?_
  refine CW.mixed (by kernel_rfl) ?_
  intro w19 e21 u20
  refine MX.to (f := 8) (L' := #[true, true, false, true, false, false, false, false, false, false, false]) (E' := [(0, .slice (some ⟨sh, 0, none⟩) 2 cp), (2, .bool false), (7, .slice (some ⟨sh, 0, none⟩) 2 cp), (8, .int .i64 2), (9, .int .i64 0), (10, .bool true), (11, .int .i64 0), (12, .pointer (some ⟨sh, 0, none⟩)), (13, .agg #[.string (⟨#[97]⟩), .int .i64 1]), (4, .pointer (some ⟨b10, 0, none⟩)), (3, .int .i64 0), (15, .slice (some ⟨sh, 0, none⟩) 2 cp), (16, .int .i64 0), (18, .pointer (some ⟨b10, 0, none⟩))]) [0, 1, 3] [0, 2, 7, 8, 9, 10, 11, 12, 13, 4, 3, 15, 16, 18] rfl (by kernel_rfl) ?_
  refine MX.sliceHi (L' := #[true, true, true, true, false, false, false, false, false, false, false]) 2 (by kernel_rfl) rfl rfl rfl rfl Tryz.underlying29 siz51 rfl rfl (by decide) (by omega) ?_
  have h22 := (h15.keep u20 nm0)
  refine MX.load1 (L' := #[true, true, true, true, true, false, false, false, false, false, false]) 4 (by kernel_rfl) rfl rfl rfl agg9 rfl rfl h22 rfl ?_
  refine MX.loud 5 (by kernel_rfl) rfl (fun K23 hK23 => ?_) rfl
  refine WL.call rfl rfl rfl rfl ent96 rfl (field0) ?_
  rintro _ w25 ⟨rfl, u24⟩
  refine WL.fin (L' := #[true, true, true, true, true, true, false, false, false, false, false]) hK23 (stY (by kernel_rfl) (stY (by kernel_rfl) st0)) ?_
  refine MX.to (f := 0) (L' := #[true, true, true, true, true, true, true, true, true, true, true]) (E' := [(0, .slice (some ⟨sh, 0, none⟩) 2 cp), (2, .bool false), (7, .slice (some ⟨sh, 0, none⟩) 2 cp), (8, .int .i64 2), (9, .int .i64 0), (10, .bool true), (11, .int .i64 0), (12, .pointer (some ⟨sh, 0, none⟩)), (13, .agg #[.string (⟨#[97]⟩), .int .i64 1]), (4, .pointer (some ⟨b10, 0, none⟩)), (3, .int .i64 0), (15, .slice (some ⟨sh, 0, none⟩) 2 cp), (16, .int .i64 0), (18, .pointer (some ⟨b10, 0, none⟩)), (17, .slice (some ⟨sh, 0, none⟩) 0 cp), (19, .string (⟨#[97]⟩)), (20, .tuple #[.int .i64 0, .bool false]), (14, .tuple #[.int .i64 0, .bool false]), (21, .int .i64 0), (22, .bool false), (6, .bool false)]) [6, 7, 8, 9, 10] [0, 2, 7, 8, 9, 10, 11, 12, 13, 4, 3, 15, 16, 18, 17, 19, 20, 14, 21, 22, 6] rfl (by kernel_rfl) ?_
  refine MX.done (by kernel_rfl) ?_
  refine hK18 _ _ _ ?_
  refine CW.seq fun K26 hK26 => ?_
  refine CW.region ?_
  refine WL.to (E' := [(0, .slice (some ⟨sh, 0, none⟩) 2 cp), (2, .bool false), (7, .slice (some ⟨sh, 0, none⟩) 2 cp), (8, .int .i64 2), (9, .int .i64 0), (10, .bool true), (11, .int .i64 0), (12, .pointer (some ⟨sh, 0, none⟩)), (13, .agg #[.string (⟨#[97]⟩), .int .i64 1]), (4, .pointer (some ⟨b10, 0, none⟩)), (3, .int .i64 0), (15, .slice (some ⟨sh, 0, none⟩) 2 cp), (16, .int .i64 0), (18, .pointer (some ⟨b10, 0, none⟩)), (17, .slice (some ⟨sh, 0, none⟩) 0 cp), (19, .string (⟨#[97]⟩)), (20, .tuple #[.int .i64 0, .bool false]), (14, .tuple #[.int .i64 0, .bool false]), (21, .int .i64 0), (22, .bool false), (6, .bool false), (23, .bool false), (24, .bool false), (25, .pointer (some ⟨b10, 0, none⟩))]) 3 [0, 2, 7, 8, 9, 10, 11, 12, 13, 4, 3, 15, 16, 18, 17, 19, 20, 14, 21, 22, 6, 23, 24, 25] (by kernel_rfl) ?_
  have h27 := (h22.keep u24 nm0)
  refine WL.load1 rfl agg9 rfl rfl h27 rfl ?_
  refine WL.callQ (v := .bool true) rfl rfl rfl rfl ent97 rfl (named_of (by decide)) ?_
  refine WL.to (E' := [(0, .slice (some ⟨sh, 0, none⟩) 2 cp), (2, .bool false), (7, .slice (some ⟨sh, 0, none⟩) 2 cp), (8, .int .i64 2), (9, .int .i64 0), (10, .bool true), (11, .int .i64 0), (12, .pointer (some ⟨sh, 0, none⟩)), (13, .agg #[.string (⟨#[97]⟩), .int .i64 1]), (4, .pointer (some ⟨b10, 0, none⟩)), (3, .int .i64 0), (15, .slice (some ⟨sh, 0, none⟩) 2 cp), (16, .int .i64 0), (18, .pointer (some ⟨b10, 0, none⟩)), (17, .slice (some ⟨sh, 0, none⟩) 0 cp), (19, .string (⟨#[97]⟩)), (20, .tuple #[.int .i64 0, .bool false]), (14, .tuple #[.int .i64 0, .bool false]), (21, .int .i64 0), (22, .bool false), (6, .bool false), (23, .bool false), (24, .bool false), (25, .pointer (some ⟨b10, 0, none⟩)), (26, .string (⟨#[97]⟩)), (27, .bool true), (28, .bool false), (29, .bool false), (30, .bool false), (31, .pointer (some ⟨b10, 1, none⟩))]) 4 [0, 2, 7, 8, 9, 10, 11, 12, 13, 4, 3, 15, 16, 18, 17, 19, 20, 14, 21, 22, 6, 23, 24, 25, 26, 27, 28, 29, 30, 31] (by kernel_rfl) ?_
  refine WL.load1 rfl agg3 rfl rfl h27 rfl ?_
  refine WL.callQ (v := .bool true) rfl rfl rfl rfl ent98 rfl (kind1) ?_
  refine WL.to (E' := [(0, .slice (some ⟨sh, 0, none⟩) 2 cp), (2, .bool false), (7, .slice (some ⟨sh, 0, none⟩) 2 cp), (8, .int .i64 2), (9, .int .i64 0), (10, .bool true), (11, .int .i64 0), (12, .pointer (some ⟨sh, 0, none⟩)), (13, .agg #[.string (⟨#[97]⟩), .int .i64 1]), (4, .pointer (some ⟨b10, 0, none⟩)), (3, .int .i64 0), (15, .slice (some ⟨sh, 0, none⟩) 2 cp), (16, .int .i64 0), (18, .pointer (some ⟨b10, 0, none⟩)), (17, .slice (some ⟨sh, 0, none⟩) 0 cp), (19, .string (⟨#[97]⟩)), (20, .tuple #[.int .i64 0, .bool false]), (14, .tuple #[.int .i64 0, .bool false]), (21, .int .i64 0), (22, .bool false), (6, .bool false), (23, .bool false), (24, .bool false), (25, .pointer (some ⟨b10, 0, none⟩)), (26, .string (⟨#[97]⟩)), (27, .bool true), (28, .bool false), (29, .bool false), (30, .bool false), (31, .pointer (some ⟨b10, 1, none⟩)), (32, .int .i64 1), (33, .bool true), (34, .bool false), (35, .bool false)]) 2 [0, 2, 7, 8, 9, 10, 11, 12, 13, 4, 3, 15, 16, 18, 17, 19, 20, 14, 21, 22, 6, 23, 24, 25, 26, 27, 28, 29, 30, 31, 32, 33, 34, 35] (by kernel_rfl) ?_
  refine WL.nil ?_
  refine hK26 _ _ _ ?_
  refine CW.condF rfl ?_
  refine CW.skip ?_
  refine hK7 _ _ _ ?_
  refine CW.region ?_
  refine WL.to (E' := [(0, .slice (some ⟨sh, 0, none⟩) 2 cp), (2, .bool false), (7, .slice (some ⟨sh, 0, none⟩) 2 cp), (8, .int .i64 2), (9, .int .i64 1), (10, .bool true), (11, .int .i64 0), (12, .pointer (some ⟨sh, 0, none⟩)), (13, .agg #[.string (⟨#[97]⟩), .int .i64 1]), (4, .pointer (some ⟨b10, 0, none⟩)), (3, .int .i64 0), (15, .slice (some ⟨sh, 0, none⟩) 2 cp), (16, .int .i64 0), (18, .pointer (some ⟨b10, 0, none⟩)), (17, .slice (some ⟨sh, 0, none⟩) 0 cp), (19, .string (⟨#[97]⟩)), (20, .tuple #[.int .i64 0, .bool false]), (14, .tuple #[.int .i64 0, .bool false]), (21, .int .i64 0), (22, .bool false), (6, .bool false), (23, .bool false), (24, .bool false), (25, .pointer (some ⟨b10, 0, none⟩)), (26, .string (⟨#[97]⟩)), (27, .bool true), (28, .bool false), (29, .bool false), (30, .bool false), (31, .pointer (some ⟨b10, 1, none⟩)), (32, .int .i64 1), (33, .bool true), (34, .bool false), (35, .bool false), (36, .int .i64 1)]) 2 [0, 2, 7, 8, 9, 10, 11, 12, 13, 4, 3, 15, 16, 18, 17, 19, 20, 14, 21, 22, 6, 23, 24, 25, 26, 27, 28, 29, 30, 31, 32, 33, 34, 35, 36] (by kernel_rfl) ?_
  refine WL.nil ?_
  refine hK4 _ _ ?_
  refine CL.round fun K28 hK28 => ?_
  refine CW.seq fun K29 hK29 => ?_
  refine CW.region ?_
  refine WL.to (E' := [(0, .slice (some ⟨sh, 0, none⟩) 2 cp), (2, .bool false), (7, .slice (some ⟨sh, 0, none⟩) 2 cp), (8, .int .i64 2), (9, .int .i64 1), (10, .bool true), (11, .int .i64 0), (12, .pointer (some ⟨sh, 0, none⟩)), (13, .agg #[.string (⟨#[97]⟩), .int .i64 1]), (4, .pointer (some ⟨b10, 0, none⟩)), (3, .int .i64 0), (15, .slice (some ⟨sh, 0, none⟩) 2 cp), (16, .int .i64 0), (18, .pointer (some ⟨b10, 0, none⟩)), (17, .slice (some ⟨sh, 0, none⟩) 0 cp), (19, .string (⟨#[97]⟩)), (20, .tuple #[.int .i64 0, .bool false]), (14, .tuple #[.int .i64 0, .bool false]), (21, .int .i64 0), (22, .bool false), (6, .bool false), (23, .bool false), (24, .bool false), (25, .pointer (some ⟨b10, 0, none⟩)), (26, .string (⟨#[97]⟩)), (27, .bool true), (28, .bool false), (29, .bool false), (30, .bool false), (31, .pointer (some ⟨b10, 1, none⟩)), (32, .int .i64 1), (33, .bool true), (34, .bool false), (35, .bool false), (36, .int .i64 1)]) 1 [0, 2, 7, 8, 9, 10, 11, 12, 13, 4, 3, 15, 16, 18, 17, 19, 20, 14, 21, 22, 6, 23, 24, 25, 26, 27, 28, 29, 30, 31, 32, 33, 34, 35, 36] (by kernel_rfl) ?_
  refine WL.nil ?_
  refine hK29 _ _ _ ?_
  refine CW.seq fun K30 hK30 => ?_
  refine CW.condT rfl ?_
  refine CW.skip ?_
  refine hK30 _ _ _ ?_
  refine CW.seq fun K31 hK31 => ?_
  refine CW.block ?_
  refine CW.seq fun K32 hK32 => ?_
  refine CW.region ?_
  refine WL.to (E' := [(0, .slice (some ⟨sh, 0, none⟩) 2 cp), (2, .bool false), (7, .slice (some ⟨sh, 0, none⟩) 2 cp), (8, .int .i64 2), (9, .int .i64 1), (10, .bool true), (11, .int .i64 1), (12, .pointer (some ⟨sh, 0, none⟩)), (13, .agg #[.string (⟨#[97]⟩), .int .i64 1]), (4, .pointer (some ⟨b10, 0, none⟩)), (3, .int .i64 0), (15, .slice (some ⟨sh, 0, none⟩) 2 cp), (16, .int .i64 0), (18, .pointer (some ⟨b10, 0, none⟩)), (17, .slice (some ⟨sh, 0, none⟩) 0 cp), (19, .string (⟨#[97]⟩)), (20, .tuple #[.int .i64 0, .bool false]), (14, .tuple #[.int .i64 0, .bool false]), (21, .int .i64 0), (22, .bool false), (6, .bool false), (23, .bool false), (24, .bool false), (25, .pointer (some ⟨b10, 0, none⟩)), (26, .string (⟨#[97]⟩)), (27, .bool true), (28, .bool false), (29, .bool false), (30, .bool false), (31, .pointer (some ⟨b10, 1, none⟩)), (32, .int .i64 1), (33, .bool true), (34, .bool false), (35, .bool false), (36, .int .i64 1)]) 1 [0, 2, 7, 8, 9, 10, 11, 12, 13, 4, 3, 15, 16, 18, 17, 19, 20, 14, 21, 22, 6, 23, 24, 25, 26, 27, 28, 29, 30, 31, 32, 33, 34, 35, 36] (by kernel_rfl) ?_
  refine WL.index rfl rfl Tryz.underlying29 siz51 rfl rfl (by decide) (by decide) ?_
  have h33 := (hs.keep u12 nm0)
  have h34 := (((h33.keep u16 (nmc (by have := hs.lt; have := g13; omega) nm0)).keep u20 nm0).keep u24 nm0)
  refine WL.loadN rfl agg51 siz51 rfl rfl h34 rfl rfl ?_
  refine WL.alloc (cs := [.string ByteArray.empty, .int .i64 0]) rfl rfl zer51 rfl ?_
  intro w35 b36 h37 u38 g39
  refine WL.to (E' := [(0, .slice (some ⟨sh, 0, none⟩) 2 cp), (2, .bool false), (7, .slice (some ⟨sh, 0, none⟩) 2 cp), (8, .int .i64 2), (9, .int .i64 1), (10, .bool true), (11, .int .i64 1), (12, .pointer (some ⟨sh, 2, none⟩)), (13, .agg #[.string (⟨#[98]⟩), .int .i64 1]), (4, .pointer (some ⟨b36, 0, none⟩)), (3, .int .i64 1), (15, .slice (some ⟨sh, 0, none⟩) 2 cp), (16, .int .i64 0), (18, .pointer (some ⟨b10, 0, none⟩)), (17, .slice (some ⟨sh, 0, none⟩) 0 cp), (19, .string (⟨#[97]⟩)), (20, .tuple #[.int .i64 0, .bool false]), (14, .tuple #[.int .i64 0, .bool false]), (21, .int .i64 0), (22, .bool false), (6, .bool false), (23, .bool false), (24, .bool false), (25, .pointer (some ⟨b10, 0, none⟩)), (26, .string (⟨#[97]⟩)), (27, .bool true), (28, .bool false), (29, .bool false), (30, .bool false), (31, .pointer (some ⟨b10, 1, none⟩)), (32, .int .i64 1), (33, .bool true), (34, .bool false), (35, .bool false), (36, .int .i64 1)]) 1 [0, 2, 7, 8, 9, 10, 11, 12, 13, 4, 3, 15, 16, 18, 17, 19, 20, 14, 21, 22, 6, 23, 24, 25, 26, 27, 28, 29, 30, 31, 32, 33, 34, 35, 36] (by kernel_rfl) ?_
  refine WL.storeN rfl siz51 rfl rfl rfl rfl h37 (Nat.le_of_ble_eq_true rfl) ?_
  intro w40 h41 u42 z43
  refine WL.nil ?_
  refine hK32 _ _ _ ?_
  refine CW.seq fun K44 hK44 => ?_
  refine CW.mixed (by kernel_rfl) ?_
  intro w45 e47 u46
  refine MX.to (f := 8) (L' := #[true, true, false, true, false, false, false, false, false, false, false]) (E' := [(0, .slice (some ⟨sh, 0, none⟩) 2 cp), (2, .bool false), (7, .slice (some ⟨sh, 0, none⟩) 2 cp), (8, .int .i64 2), (9, .int .i64 1), (10, .bool true), (11, .int .i64 1), (12, .pointer (some ⟨sh, 2, none⟩)), (13, .agg #[.string (⟨#[98]⟩), .int .i64 1]), (4, .pointer (some ⟨b36, 0, none⟩)), (3, .int .i64 1), (15, .slice (some ⟨sh, 0, none⟩) 2 cp), (16, .int .i64 1), (18, .pointer (some ⟨b36, 0, none⟩)), (17, .slice (some ⟨sh, 0, none⟩) 0 cp), (19, .string (⟨#[97]⟩)), (20, .tuple #[.int .i64 0, .bool false]), (14, .tuple #[.int .i64 0, .bool false]), (21, .int .i64 0), (22, .bool false), (6, .bool false), (23, .bool false), (24, .bool false), (25, .pointer (some ⟨b10, 0, none⟩)), (26, .string (⟨#[97]⟩)), (27, .bool true), (28, .bool false), (29, .bool false), (30, .bool false), (31, .pointer (some ⟨b10, 1, none⟩)), (32, .int .i64 1), (33, .bool true), (34, .bool false), (35, .bool false), (36, .int .i64 1)]) [0, 1, 3] [0, 2, 7, 8, 9, 10, 11, 12, 13, 4, 3, 15, 16, 18, 17, 19, 20, 14, 21, 22, 6, 23, 24, 25, 26, 27, 28, 29, 30, 31, 32, 33, 34, 35, 36] rfl (by kernel_rfl) ?_
  refine MX.sliceHi (L' := #[true, true, true, true, false, false, false, false, false, false, false]) 2 (by kernel_rfl) rfl rfl rfl rfl Tryz.underlying29 siz51 rfl rfl (by decide) (by omega) ?_
  have h48 := (h41.keep u46 nm0)
  refine MX.load1 (L' := #[true, true, true, true, true, false, false, false, false, false, false]) 4 (by kernel_rfl) rfl rfl rfl agg9 rfl rfl h48 rfl ?_
  refine MX.loud 5 (by kernel_rfl) rfl (fun K49 hK49 => ?_) rfl
  have h50 := (h34.keep u38 nm0)
  have h51 := ((h50.keep u42 (nmc (by have := hs.lt; have := g39; have := u12.size; have := u16.size; have := u20.size; have := u24.size; omega) nm0)).keep u46 nm0)
  refine WL.call rfl rfl rfl rfl ent96 rfl (field1 h51) ?_
  rintro _ w53 ⟨rfl, u52⟩
  refine WL.fin (L' := #[true, true, true, true, true, true, false, false, false, false, false]) hK49 (stY (by kernel_rfl) (stY (by kernel_rfl) st0)) ?_
  refine MX.to (f := 0) (L' := #[true, true, true, true, true, true, true, true, true, true, true]) (E' := [(0, .slice (some ⟨sh, 0, none⟩) 2 cp), (2, .bool false), (7, .slice (some ⟨sh, 0, none⟩) 2 cp), (8, .int .i64 2), (9, .int .i64 1), (10, .bool true), (11, .int .i64 1), (12, .pointer (some ⟨sh, 2, none⟩)), (13, .agg #[.string (⟨#[98]⟩), .int .i64 1]), (4, .pointer (some ⟨b36, 0, none⟩)), (3, .int .i64 1), (15, .slice (some ⟨sh, 0, none⟩) 2 cp), (16, .int .i64 1), (18, .pointer (some ⟨b36, 0, none⟩)), (17, .slice (some ⟨sh, 0, none⟩) 1 cp), (19, .string (⟨#[98]⟩)), (20, .tuple #[.int .i64 0, .bool false]), (14, .tuple #[.int .i64 0, .bool false]), (21, .int .i64 0), (22, .bool false), (6, .bool false), (23, .bool false), (24, .bool false), (25, .pointer (some ⟨b10, 0, none⟩)), (26, .string (⟨#[97]⟩)), (27, .bool true), (28, .bool false), (29, .bool false), (30, .bool false), (31, .pointer (some ⟨b10, 1, none⟩)), (32, .int .i64 1), (33, .bool true), (34, .bool false), (35, .bool false), (36, .int .i64 1)]) [6, 7, 8, 9, 10] [0, 2, 7, 8, 9, 10, 11, 12, 13, 4, 3, 15, 16, 18, 17, 19, 20, 14, 21, 22, 6, 23, 24, 25, 26, 27, 28, 29, 30, 31, 32, 33, 34, 35, 36] rfl (by kernel_rfl) ?_
  refine MX.done (by kernel_rfl) ?_
  refine hK44 _ _ _ ?_
  refine CW.seq fun K54 hK54 => ?_
  refine CW.region ?_
  refine WL.to (E' := [(0, .slice (some ⟨sh, 0, none⟩) 2 cp), (2, .bool false), (7, .slice (some ⟨sh, 0, none⟩) 2 cp), (8, .int .i64 2), (9, .int .i64 1), (10, .bool true), (11, .int .i64 1), (12, .pointer (some ⟨sh, 2, none⟩)), (13, .agg #[.string (⟨#[98]⟩), .int .i64 1]), (4, .pointer (some ⟨b36, 0, none⟩)), (3, .int .i64 1), (15, .slice (some ⟨sh, 0, none⟩) 2 cp), (16, .int .i64 1), (18, .pointer (some ⟨b36, 0, none⟩)), (17, .slice (some ⟨sh, 0, none⟩) 1 cp), (19, .string (⟨#[98]⟩)), (20, .tuple #[.int .i64 0, .bool false]), (14, .tuple #[.int .i64 0, .bool false]), (21, .int .i64 0), (22, .bool false), (6, .bool false), (23, .bool false), (24, .bool false), (25, .pointer (some ⟨b36, 0, none⟩)), (26, .string (⟨#[97]⟩)), (27, .bool true), (28, .bool false), (29, .bool false), (30, .bool false), (31, .pointer (some ⟨b10, 1, none⟩)), (32, .int .i64 1), (33, .bool true), (34, .bool false), (35, .bool false), (36, .int .i64 1)]) 3 [0, 2, 7, 8, 9, 10, 11, 12, 13, 4, 3, 15, 16, 18, 17, 19, 20, 14, 21, 22, 6, 23, 24, 25, 26, 27, 28, 29, 30, 31, 32, 33, 34, 35, 36] (by kernel_rfl) ?_
  have h55 := (h48.keep u52 nm0)
  refine WL.load1 rfl agg9 rfl rfl h55 rfl ?_
  refine WL.callQ (v := .bool true) rfl rfl rfl rfl ent97 rfl (named_of (by decide)) ?_
  refine WL.to (E' := [(0, .slice (some ⟨sh, 0, none⟩) 2 cp), (2, .bool false), (7, .slice (some ⟨sh, 0, none⟩) 2 cp), (8, .int .i64 2), (9, .int .i64 1), (10, .bool true), (11, .int .i64 1), (12, .pointer (some ⟨sh, 2, none⟩)), (13, .agg #[.string (⟨#[98]⟩), .int .i64 1]), (4, .pointer (some ⟨b36, 0, none⟩)), (3, .int .i64 1), (15, .slice (some ⟨sh, 0, none⟩) 2 cp), (16, .int .i64 1), (18, .pointer (some ⟨b36, 0, none⟩)), (17, .slice (some ⟨sh, 0, none⟩) 1 cp), (19, .string (⟨#[98]⟩)), (20, .tuple #[.int .i64 0, .bool false]), (14, .tuple #[.int .i64 0, .bool false]), (21, .int .i64 0), (22, .bool false), (6, .bool false), (23, .bool false), (24, .bool false), (25, .pointer (some ⟨b36, 0, none⟩)), (26, .string (⟨#[98]⟩)), (27, .bool true), (28, .bool false), (29, .bool false), (30, .bool false), (31, .pointer (some ⟨b36, 1, none⟩)), (32, .int .i64 1), (33, .bool true), (34, .bool false), (35, .bool false), (36, .int .i64 1)]) 4 [0, 2, 7, 8, 9, 10, 11, 12, 13, 4, 3, 15, 16, 18, 17, 19, 20, 14, 21, 22, 6, 23, 24, 25, 26, 27, 28, 29, 30, 31, 32, 33, 34, 35, 36] (by kernel_rfl) ?_
  refine WL.load1 rfl agg3 rfl rfl h55 rfl ?_
  refine WL.callQ (v := .bool true) rfl rfl rfl rfl ent98 rfl (kind1) ?_
  refine WL.to (E' := [(0, .slice (some ⟨sh, 0, none⟩) 2 cp), (2, .bool false), (7, .slice (some ⟨sh, 0, none⟩) 2 cp), (8, .int .i64 2), (9, .int .i64 1), (10, .bool true), (11, .int .i64 1), (12, .pointer (some ⟨sh, 2, none⟩)), (13, .agg #[.string (⟨#[98]⟩), .int .i64 1]), (4, .pointer (some ⟨b36, 0, none⟩)), (3, .int .i64 1), (15, .slice (some ⟨sh, 0, none⟩) 2 cp), (16, .int .i64 1), (18, .pointer (some ⟨b36, 0, none⟩)), (17, .slice (some ⟨sh, 0, none⟩) 1 cp), (19, .string (⟨#[98]⟩)), (20, .tuple #[.int .i64 0, .bool false]), (14, .tuple #[.int .i64 0, .bool false]), (21, .int .i64 0), (22, .bool false), (6, .bool false), (23, .bool false), (24, .bool false), (25, .pointer (some ⟨b36, 0, none⟩)), (26, .string (⟨#[98]⟩)), (27, .bool true), (28, .bool false), (29, .bool false), (30, .bool false), (31, .pointer (some ⟨b36, 1, none⟩)), (32, .int .i64 1), (33, .bool true), (34, .bool false), (35, .bool false), (36, .int .i64 1)]) 2 [0, 2, 7, 8, 9, 10, 11, 12, 13, 4, 3, 15, 16, 18, 17, 19, 20, 14, 21, 22, 6, 23, 24, 25, 26, 27, 28, 29, 30, 31, 32, 33, 34, 35, 36] (by kernel_rfl) ?_
  refine WL.nil ?_
  refine hK54 _ _ _ ?_
  refine CW.condF rfl ?_
  refine CW.skip ?_
  refine hK31 _ _ _ ?_
  refine CW.region ?_
  refine WL.to (E' := [(0, .slice (some ⟨sh, 0, none⟩) 2 cp), (2, .bool false), (7, .slice (some ⟨sh, 0, none⟩) 2 cp), (8, .int .i64 2), (9, .int .i64 2), (10, .bool true), (11, .int .i64 1), (12, .pointer (some ⟨sh, 2, none⟩)), (13, .agg #[.string (⟨#[98]⟩), .int .i64 1]), (4, .pointer (some ⟨b36, 0, none⟩)), (3, .int .i64 1), (15, .slice (some ⟨sh, 0, none⟩) 2 cp), (16, .int .i64 1), (18, .pointer (some ⟨b36, 0, none⟩)), (17, .slice (some ⟨sh, 0, none⟩) 1 cp), (19, .string (⟨#[98]⟩)), (20, .tuple #[.int .i64 0, .bool false]), (14, .tuple #[.int .i64 0, .bool false]), (21, .int .i64 0), (22, .bool false), (6, .bool false), (23, .bool false), (24, .bool false), (25, .pointer (some ⟨b36, 0, none⟩)), (26, .string (⟨#[98]⟩)), (27, .bool true), (28, .bool false), (29, .bool false), (30, .bool false), (31, .pointer (some ⟨b36, 1, none⟩)), (32, .int .i64 1), (33, .bool true), (34, .bool false), (35, .bool false), (36, .int .i64 2)]) 2 [0, 2, 7, 8, 9, 10, 11, 12, 13, 4, 3, 15, 16, 18, 17, 19, 20, 14, 21, 22, 6, 23, 24, 25, 26, 27, 28, 29, 30, 31, 32, 33, 34, 35, 36] (by kernel_rfl) ?_
  refine WL.nil ?_
  refine hK28 _ _ ?_
  refine CL.round fun K56 hK56 => ?_
  refine CW.seq fun K57 hK57 => ?_
  refine CW.region ?_
  refine WL.to (E' := [(0, .slice (some ⟨sh, 0, none⟩) 2 cp), (2, .bool false), (7, .slice (some ⟨sh, 0, none⟩) 2 cp), (8, .int .i64 2), (9, .int .i64 2), (10, .bool false), (11, .int .i64 1), (12, .pointer (some ⟨sh, 2, none⟩)), (13, .agg #[.string (⟨#[98]⟩), .int .i64 1]), (4, .pointer (some ⟨b36, 0, none⟩)), (3, .int .i64 1), (15, .slice (some ⟨sh, 0, none⟩) 2 cp), (16, .int .i64 1), (18, .pointer (some ⟨b36, 0, none⟩)), (17, .slice (some ⟨sh, 0, none⟩) 1 cp), (19, .string (⟨#[98]⟩)), (20, .tuple #[.int .i64 0, .bool false]), (14, .tuple #[.int .i64 0, .bool false]), (21, .int .i64 0), (22, .bool false), (6, .bool false), (23, .bool false), (24, .bool false), (25, .pointer (some ⟨b36, 0, none⟩)), (26, .string (⟨#[98]⟩)), (27, .bool true), (28, .bool false), (29, .bool false), (30, .bool false), (31, .pointer (some ⟨b36, 1, none⟩)), (32, .int .i64 1), (33, .bool true), (34, .bool false), (35, .bool false), (36, .int .i64 2)]) 1 [0, 2, 7, 8, 9, 10, 11, 12, 13, 4, 3, 15, 16, 18, 17, 19, 20, 14, 21, 22, 6, 23, 24, 25, 26, 27, 28, 29, 30, 31, 32, 33, 34, 35, 36] (by kernel_rfl) ?_
  refine WL.nil ?_
  refine hK57 _ _ _ ?_
  refine CW.seq fun K58 hK58 => ?_
  refine CW.condF rfl ?_
  refine CW.exit ?_
  refine hK2 _ _ _ ?_
  refine CW.seq fun K59 hK59 => ?_
  refine CW.region ?_
  refine WL.to (E' := [(2, .bool true)]) 9 [2] (by kernel_rfl) ?_
  refine WL.nil ?_
  refine hK59 _ _ _ ?_
  refine CW.ret fun a ha => ?_
  try simp (decide := true) only [Exit.inBlock, Exit.then, ↓reduceIte]
  exact fin ha.defers (res_tmp rfl ha rfl _) ⟨rfl, ((((((((u12.trans u16).trans u20).trans u24).trans u38).trans u42).trans u46).trans u52).sub (by intro k hk hl; simp only [Value.ownBlock, Option.toList, List.mem_append, List.mem_cons, List.not_mem_nil, or_false, false_or] at hk; have := g13; have := g39; have := u12.size; have := u16.size; have := u20.size; have := u24.size; have := u38.size; have := u42.size; have := u46.size; have := u52.size; omega))⟩

theorem cloneF {w : World} {sh k cp : Nat} {fs rest : List Value} (hb : Blk w sh (fs ++ rest) 51) (hl : fs.length = k * 2) (h1 : fs.all Value.oneCell' = true) (hk : k ≤ 1000) :
    Ret Tryz.prog 58 #[.slice (some ⟨sh, 0, none⟩) k cp] w fun v w' => ∃ ao cp', v = .slice ao k cp' ∧ Own w' (.slice ao k cp') 51 2 k fs ∧ Only [] w w' ∧ ∀ b, (Value.slice ao k cp').ownBlock = some b → w.heap.size ≤ b := by
  refine enterL (args := [.slice (some ⟨sh, 0, none⟩) k cp]) Tryz.func58 rfl rfl rfl ?_
  refine CW.seq fun K1 hK1 => ?_
  refine CW.region ?_
  refine WL.to (E' := [(0, .slice (some ⟨sh, 0, none⟩) k cp), (2, .slice none 0 0)]) 1 [0, 2] (by kernel_rfl) ?_
  refine WL.nil ?_
  refine hK1 _ _ _ ?_
  refine CW.seq fun K2 hK2 => ?_
  refine CW.seq fun K3 hK3 => ?_
  refine CW.region ?_
  refine WL.to (E' := [(0, .slice (some ⟨sh, 0, none⟩) k cp), (2, .slice none 0 0), (3, .slice (some ⟨sh, 0, none⟩) k cp)]) 1 [0, 2, 3] (by kernel_rfl) ?_
  refine WL.binC (v := .bool false) rfl rfl rfl rfl (fun _ => by kernel_rfl) ?_
  refine WL.sub [(0, .slice (some ⟨sh, 0, none⟩) k cp), (2, .slice none 0 0), (4, .bool false)] ⟨rfl, rfl, rfl, trivial⟩ ?_
  refine WL.nil ?_
  refine hK3 _ _ _ ?_
  refine CW.condF rfl ?_
  refine CW.skip ?_
  refine hK2 _ _ _ ?_
  refine CW.seq fun K4 hK4 => ?_
  refine CW.region ?_
  refine WL.buildSlice0 rfl rfl Tryz.underlying29 siz51 ?_
  intro w5 b6 h7 u8 g9
  refine WL.to (E' := [(2, .slice none 0 0), (5, .slice (some ⟨b6, 0, none⟩) 0 0), (6, .slice (some ⟨sh, 0, none⟩) k cp)]) 1 [2, 5, 6] (by kernel_rfl) ?_
  have h10 := (hb.keep u8 nm0)
  refine WL.appT (k := 0) (xs := []) (m := k) (news := fs) rfl Tryz.underlying29 inf51 rfl rfl rfl rfl rfl (Own.empty h7) h10 (by rw [List.drop_zero, ← hl, List.take_left]) hl h1 ⟨by omega, by omega⟩ ?_
  intro v11 w12 h13 u14 f15
  rw [Nat.zero_add, List.nil_append] at h13
  obtain ⟨ao16, cp17, rfl⟩ := h13.form
  refine WL.to (E' := [(2, .slice ao16 k cp17)]) 1 [2] (by kernel_rfl) ?_
  refine WL.nil ?_
  refine hK4 _ _ _ ?_
  refine CW.ret fun a ha => ?_
  try simp (decide := true) only [Exit.inBlock, Exit.then, ↓reduceIte]
  exact fin ha.defers (res_tmp rfl ha rfl _) ⟨_, _, rfl, h13, ((u8.trans u14).sub (by intro k hk hl; simp only [Value.ownBlock, Option.toList, List.mem_append, List.mem_cons, List.not_mem_nil, or_false, false_or] at hk; have := g9; have := u8.size; have := u14.size; omega)), fun c hc => (f15 c hc).elim (fun h => by simp [Value.ownBlock] at h; subst h; exact g9) (fun h => by have := u8.size; omega)⟩

theorem cloneV_nil {w : World} :
    Ret Tryz.prog 170 #[.slice none 0 0] w fun v w' => v = .slice none 0 0 ∧ w' = w := by
  refine enterL (args := [.slice none 0 0]) Tryz.func170 rfl rfl rfl ?_
  refine CW.seq fun K1 hK1 => ?_
  refine CW.region ?_
  refine WL.to (E' := [(0, .slice none 0 0), (2, .slice none 0 0)]) 1 [0, 2] (by kernel_rfl) ?_
  refine WL.nil ?_
  refine hK1 _ _ _ ?_
  refine CW.seq fun K2 hK2 => ?_
  refine CW.seq fun K3 hK3 => ?_
  refine CW.region ?_
  refine WL.to (E' := [(0, .slice none 0 0), (2, .slice none 0 0), (3, .slice none 0 0)]) 1 [0, 2, 3] (by kernel_rfl) ?_
  refine WL.binC (v := .bool true) rfl rfl rfl rfl (fun _ => by kernel_rfl) ?_
  refine WL.sub [(0, .slice none 0 0), (2, .slice none 0 0), (4, .bool true)] ⟨rfl, rfl, rfl, trivial⟩ ?_
  refine WL.nil ?_
  refine hK3 _ _ _ ?_
  refine CW.condT rfl ?_
  refine CW.seq fun K4 hK4 => ?_
  refine CW.region ?_
  refine WL.to (E' := [(0, .slice none 0 0), (2, .slice none 0 0)]) 1 [0, 2] (by kernel_rfl) ?_
  refine WL.nil ?_
  refine hK4 _ _ _ ?_
  refine CW.ret fun a ha => ?_
  try simp (decide := true) only [Exit.inBlock, Exit.then, ↓reduceIte]
  exact fin ha.defers (res_tmp rfl ha rfl _) ⟨rfl, rfl⟩

theorem cloneV {w : World} {sh k cp : Nat} {fs rest : List Value} (hb : Blk w sh (fs ++ rest) 58) (hl : fs.length = k * 4) (h1 : fs.all Value.oneCell' = true) (hk : k ≤ 1000) :
    Ret Tryz.prog 170 #[.slice (some ⟨sh, 0, none⟩) k cp] w fun v w' => ∃ ao cp', v = .slice ao k cp' ∧ Own w' (.slice ao k cp') 58 4 k fs ∧ Only [] w w' ∧ ∀ b, (Value.slice ao k cp').ownBlock = some b → w.heap.size ≤ b := by
  refine enterL (args := [.slice (some ⟨sh, 0, none⟩) k cp]) Tryz.func170 rfl rfl rfl ?_
  refine CW.seq fun K1 hK1 => ?_
  refine CW.region ?_
  refine WL.to (E' := [(0, .slice (some ⟨sh, 0, none⟩) k cp), (2, .slice none 0 0)]) 1 [0, 2] (by kernel_rfl) ?_
  refine WL.nil ?_
  refine hK1 _ _ _ ?_
  refine CW.seq fun K2 hK2 => ?_
  refine CW.seq fun K3 hK3 => ?_
  refine CW.region ?_
  refine WL.to (E' := [(0, .slice (some ⟨sh, 0, none⟩) k cp), (2, .slice none 0 0), (3, .slice (some ⟨sh, 0, none⟩) k cp)]) 1 [0, 2, 3] (by kernel_rfl) ?_
  refine WL.binC (v := .bool false) rfl rfl rfl rfl (fun _ => by kernel_rfl) ?_
  refine WL.sub [(0, .slice (some ⟨sh, 0, none⟩) k cp), (2, .slice none 0 0), (4, .bool false)] ⟨rfl, rfl, rfl, trivial⟩ ?_
  refine WL.nil ?_
  refine hK3 _ _ _ ?_
  refine CW.condF rfl ?_
  refine CW.skip ?_
  refine hK2 _ _ _ ?_
  refine CW.seq fun K4 hK4 => ?_
  refine CW.region ?_
  refine WL.buildSlice0 rfl rfl Tryz.underlying38 siz58 ?_
  intro w5 b6 h7 u8 g9
  refine WL.to (E' := [(2, .slice none 0 0), (5, .slice (some ⟨b6, 0, none⟩) 0 0), (6, .slice (some ⟨sh, 0, none⟩) k cp)]) 1 [2, 5, 6] (by kernel_rfl) ?_
  have h10 := (hb.keep u8 nm0)
  refine WL.appT (k := 0) (xs := []) (m := k) (news := fs) rfl Tryz.underlying38 inf58 rfl rfl rfl rfl rfl (Own.empty h7) h10 (by rw [List.drop_zero, ← hl, List.take_left]) hl h1 ⟨by omega, by omega⟩ ?_
  intro v11 w12 h13 u14 f15
  rw [Nat.zero_add, List.nil_append] at h13
  obtain ⟨ao16, cp17, rfl⟩ := h13.form
  refine WL.to (E' := [(2, .slice ao16 k cp17)]) 1 [2] (by kernel_rfl) ?_
  refine WL.nil ?_
  refine hK4 _ _ _ ?_
  refine CW.ret fun a ha => ?_
  try simp (decide := true) only [Exit.inBlock, Exit.then, ↓reduceIte]
  exact fin ha.defers (res_tmp rfl ha rfl _) ⟨_, _, rfl, h13, ((u8.trans u14).sub (by intro k hk hl; simp only [Value.ownBlock, Option.toList, List.mem_append, List.mem_cons, List.not_mem_nil, or_false, false_or] at hk; have := g9; have := u8.size; have := u14.size; omega)), fun c hc => (f15 c hc).elim (fun h => by simp [Value.ownBlock] at h; subst h; exact g9) (fun h => by have := u8.size; omega)⟩

theorem cloneX_nil {w : World} :
    Ret Tryz.prog 137 #[.slice none 0 0] w fun v w' => v = .slice none 0 0 ∧ w' = w := by
  refine enterL (args := [.slice none 0 0]) Tryz.func137 rfl rfl rfl ?_
  refine CW.seq fun K1 hK1 => ?_
  refine CW.region ?_
  refine WL.to (E' := [(0, .slice none 0 0), (2, .slice none 0 0)]) 1 [0, 2] (by kernel_rfl) ?_
  refine WL.nil ?_
  refine hK1 _ _ _ ?_
  refine CW.seq fun K2 hK2 => ?_
  refine CW.seq fun K3 hK3 => ?_
  refine CW.region ?_
  refine WL.to (E' := [(0, .slice none 0 0), (2, .slice none 0 0), (3, .slice none 0 0)]) 1 [0, 2, 3] (by kernel_rfl) ?_
  refine WL.binC (v := .bool true) rfl rfl rfl rfl (fun _ => by kernel_rfl) ?_
  refine WL.sub [(0, .slice none 0 0), (2, .slice none 0 0), (4, .bool true)] ⟨rfl, rfl, rfl, trivial⟩ ?_
  refine WL.nil ?_
  refine hK3 _ _ _ ?_
  refine CW.condT rfl ?_
  refine CW.seq fun K4 hK4 => ?_
  refine CW.region ?_
  refine WL.to (E' := [(0, .slice none 0 0), (2, .slice none 0 0)]) 1 [0, 2] (by kernel_rfl) ?_
  refine WL.nil ?_
  refine hK4 _ _ _ ?_
  refine CW.ret fun a ha => ?_
  try simp (decide := true) only [Exit.inBlock, Exit.then, ↓reduceIte]
  exact fin ha.defers (res_tmp rfl ha rfl _) ⟨rfl, rfl⟩

theorem cloneV_own {w : World} {ao : Option Addr} {k cp : Nat} {fs : List Value} (h : Own w (.slice ao k cp) 58 4 k fs) (h1 : fs.all Value.oneCell' = true) (hk : k ≤ 1000) :
    Ret Tryz.prog 170 #[.slice ao k cp] w fun v w' => ∃ ao cp', v = .slice ao k cp' ∧ Own w' (.slice ao k cp') 58 4 k fs ∧ Only [] w w' ∧ ∀ b, (Value.slice ao k cp').ownBlock = some b → w.heap.size ≤ b := by
  obtain ⟨hl, h⟩ := h
  rcases h with ⟨h, rfl⟩ | ⟨g, cap, cur, h, _, hg, h3, h4, h5, h6⟩
  · cases h
    have : fs = [] := List.eq_nil_of_length_eq_zero (by simpa using hl)
    subst this
    exact Ret.mono cloneV_nil (by rintro v w' ⟨rfl, rfl⟩; exact ⟨_, _, rfl, Own.nil, Only.refl _ _, by simp [Value.ownBlock]⟩)
  · cases h
    have e : cur.toList = fs ++ cur.toList.drop (k * 4) := by rw [← h6, List.take_append_drop]
    have hb : Blk w g (fs ++ cur.toList.drop (k * 4)) 58 := by unfold Blk; rw [← e]; simpa using hg
    exact cloneV hb hl h1 hk

theorem cloneEe_nil {w : World} :
    Ret Tryz.prog 56 #[.slice none 0 0] w fun v w' => v = .slice none 0 0 ∧ w' = w := by
  refine enterL (args := [.slice none 0 0]) Tryz.func56 rfl rfl rfl ?_
  refine CW.seq fun K1 hK1 => ?_
  refine CW.region ?_
  refine WL.to (E' := [(0, .slice none 0 0), (2, .slice none 0 0)]) 1 [0, 2] (by kernel_rfl) ?_
  refine WL.nil ?_
  refine hK1 _ _ _ ?_
  refine CW.seq fun K2 hK2 => ?_
  refine CW.seq fun K3 hK3 => ?_
  refine CW.region ?_
  refine WL.to (E' := [(0, .slice none 0 0), (2, .slice none 0 0), (3, .slice none 0 0)]) 1 [0, 2, 3] (by kernel_rfl) ?_
  refine WL.binC (v := .bool true) rfl rfl rfl rfl (fun _ => by kernel_rfl) ?_
  refine WL.sub [(0, .slice none 0 0), (2, .slice none 0 0), (4, .bool true)] ⟨rfl, rfl, rfl, trivial⟩ ?_
  refine WL.nil ?_
  refine hK3 _ _ _ ?_
  refine CW.condT rfl ?_
  refine CW.seq fun K4 hK4 => ?_
  refine CW.region ?_
  refine WL.to (E' := [(0, .slice none 0 0), (2, .slice none 0 0)]) 1 [0, 2] (by kernel_rfl) ?_
  refine WL.nil ?_
  refine hK4 _ _ _ ?_
  refine CW.ret fun a ha => ?_
  try simp (decide := true) only [Exit.inBlock, Exit.then, ↓reduceIte]
  exact fin ha.defers (res_tmp rfl ha rfl _) ⟨rfl, rfl⟩

theorem cloneEe {w : World} {sh k cp : Nat} {fs rest : List Value} (hb : Blk w sh (fs ++ rest) 104) (hl : fs.length = k * 1) (h1 : fs.all Value.oneCell' = true) (hk : k ≤ 1000) :
    Ret Tryz.prog 56 #[.slice (some ⟨sh, 0, none⟩) k cp] w fun v w' => ∃ ao cp', v = .slice ao k cp' ∧ Own w' (.slice ao k cp') 104 1 k fs ∧ Only [] w w' ∧ ∀ b, (Value.slice ao k cp').ownBlock = some b → w.heap.size ≤ b := by
  refine enterL (args := [.slice (some ⟨sh, 0, none⟩) k cp]) Tryz.func56 rfl rfl rfl ?_
  refine CW.seq fun K1 hK1 => ?_
  refine CW.region ?_
  refine WL.to (E' := [(0, .slice (some ⟨sh, 0, none⟩) k cp), (2, .slice none 0 0)]) 1 [0, 2] (by kernel_rfl) ?_
  refine WL.nil ?_
  refine hK1 _ _ _ ?_
  refine CW.seq fun K2 hK2 => ?_
  refine CW.seq fun K3 hK3 => ?_
  refine CW.region ?_
  refine WL.to (E' := [(0, .slice (some ⟨sh, 0, none⟩) k cp), (2, .slice none 0 0), (3, .slice (some ⟨sh, 0, none⟩) k cp)]) 1 [0, 2, 3] (by kernel_rfl) ?_
  refine WL.binC (v := .bool false) rfl rfl rfl rfl (fun _ => by kernel_rfl) ?_
  refine WL.sub [(0, .slice (some ⟨sh, 0, none⟩) k cp), (2, .slice none 0 0), (4, .bool false)] ⟨rfl, rfl, rfl, trivial⟩ ?_
  refine WL.nil ?_
  refine hK3 _ _ _ ?_
  refine CW.condF rfl ?_
  refine CW.skip ?_
  refine hK2 _ _ _ ?_
  refine CW.seq fun K4 hK4 => ?_
  refine CW.region ?_
  refine WL.buildSlice0 rfl rfl Tryz.underlying31 siz104 ?_
  intro w5 b6 h7 u8 g9
  refine WL.to (E' := [(2, .slice none 0 0), (5, .slice (some ⟨b6, 0, none⟩) 0 0), (6, .slice (some ⟨sh, 0, none⟩) k cp)]) 1 [2, 5, 6] (by kernel_rfl) ?_
  have h10 := (hb.keep u8 nm0)
  refine WL.appT (k := 0) (xs := []) (m := k) (news := fs) rfl Tryz.underlying31 inf104 rfl rfl rfl rfl rfl (Own.empty h7) h10 (by rw [List.drop_zero, ← hl, List.take_left]) hl h1 ⟨by omega, by omega⟩ ?_
  intro v11 w12 h13 u14 f15
  rw [Nat.zero_add, List.nil_append] at h13
  obtain ⟨ao16, cp17, rfl⟩ := h13.form
  refine WL.to (E' := [(2, .slice ao16 k cp17)]) 1 [2] (by kernel_rfl) ?_
  refine WL.nil ?_
  refine hK4 _ _ _ ?_
  refine CW.ret fun a ha => ?_
  try simp (decide := true) only [Exit.inBlock, Exit.then, ↓reduceIte]
  exact fin ha.defers (res_tmp rfl ha rfl _) ⟨_, _, rfl, h13, ((u8.trans u14).sub (by intro k hk hl; simp only [Value.ownBlock, Option.toList, List.mem_append, List.mem_cons, List.not_mem_nil, or_false, false_or] at hk; have := g9; have := u8.size; have := u14.size; omega)), fun c hc => (f15 c hc).elim (fun h => by simp [Value.ownBlock] at h; subst h; exact g9) (fun h => by have := u8.size; omega)⟩

theorem cloneEe_own {w : World} {ao : Option Addr} {k cp : Nat} {fs : List Value} (h : Own w (.slice ao k cp) 104 1 k fs) (h1 : fs.all Value.oneCell' = true) (hk : k ≤ 1000) :
    Ret Tryz.prog 56 #[.slice ao k cp] w fun v w' => ∃ ao cp', v = .slice ao k cp' ∧ Own w' (.slice ao k cp') 104 1 k fs ∧ Only [] w w' ∧ ∀ b, (Value.slice ao k cp').ownBlock = some b → w.heap.size ≤ b := by
  obtain ⟨hl, h⟩ := h
  rcases h with ⟨h, rfl⟩ | ⟨g, cap, cur, h, _, hg, h3, h4, h5, h6⟩
  · cases h
    have : fs = [] := List.eq_nil_of_length_eq_zero (by simpa using hl)
    subst this
    exact Ret.mono cloneEe_nil (by rintro v w' ⟨rfl, rfl⟩; exact ⟨_, _, rfl, Own.nil, Only.refl _ _, by simp [Value.ownBlock]⟩)
  · cases h
    have e : cur.toList = fs ++ cur.toList.drop (k * 1) := by rw [← h6, List.take_append_drop]
    have hb : Blk w g (fs ++ cur.toList.drop (k * 1)) 104 := by unfold Blk; rw [← e]; simpa using hg
    exact cloneEe hb hl h1 hk

theorem cloneCc_nil {w : World} :
    Ret Tryz.prog 57 #[.slice none 0 0] w fun v w' => v = .slice none 0 0 ∧ w' = w := by
  refine enterL (args := [.slice none 0 0]) Tryz.func57 rfl rfl rfl ?_
  refine CW.seq fun K1 hK1 => ?_
  refine CW.region ?_
  refine WL.to (E' := [(0, .slice none 0 0), (2, .slice none 0 0)]) 1 [0, 2] (by kernel_rfl) ?_
  refine WL.nil ?_
  refine hK1 _ _ _ ?_
  refine CW.seq fun K2 hK2 => ?_
  refine CW.seq fun K3 hK3 => ?_
  refine CW.region ?_
  refine WL.to (E' := [(0, .slice none 0 0), (2, .slice none 0 0), (3, .slice none 0 0)]) 1 [0, 2, 3] (by kernel_rfl) ?_
  refine WL.binC (v := .bool true) rfl rfl rfl rfl (fun _ => by kernel_rfl) ?_
  refine WL.sub [(0, .slice none 0 0), (2, .slice none 0 0), (4, .bool true)] ⟨rfl, rfl, rfl, trivial⟩ ?_
  refine WL.nil ?_
  refine hK3 _ _ _ ?_
  refine CW.condT rfl ?_
  refine CW.seq fun K4 hK4 => ?_
  refine CW.region ?_
  refine WL.to (E' := [(0, .slice none 0 0), (2, .slice none 0 0)]) 1 [0, 2] (by kernel_rfl) ?_
  refine WL.nil ?_
  refine hK4 _ _ _ ?_
  refine CW.ret fun a ha => ?_
  try simp (decide := true) only [Exit.inBlock, Exit.then, ↓reduceIte]
  exact fin ha.defers (res_tmp rfl ha rfl _) ⟨rfl, rfl⟩

theorem cloneCc {w : World} {sh k cp : Nat} {fs rest : List Value} (hb : Blk w sh (fs ++ rest) 107) (hl : fs.length = k * 1) (h1 : fs.all Value.oneCell' = true) (hk : k ≤ 1000) :
    Ret Tryz.prog 57 #[.slice (some ⟨sh, 0, none⟩) k cp] w fun v w' => ∃ ao cp', v = .slice ao k cp' ∧ Own w' (.slice ao k cp') 107 1 k fs ∧ Only [] w w' ∧ ∀ b, (Value.slice ao k cp').ownBlock = some b → w.heap.size ≤ b := by
  refine enterL (args := [.slice (some ⟨sh, 0, none⟩) k cp]) Tryz.func57 rfl rfl rfl ?_
  refine CW.seq fun K1 hK1 => ?_
  refine CW.region ?_
  refine WL.to (E' := [(0, .slice (some ⟨sh, 0, none⟩) k cp), (2, .slice none 0 0)]) 1 [0, 2] (by kernel_rfl) ?_
  refine WL.nil ?_
  refine hK1 _ _ _ ?_
  refine CW.seq fun K2 hK2 => ?_
  refine CW.seq fun K3 hK3 => ?_
  refine CW.region ?_
  refine WL.to (E' := [(0, .slice (some ⟨sh, 0, none⟩) k cp), (2, .slice none 0 0), (3, .slice (some ⟨sh, 0, none⟩) k cp)]) 1 [0, 2, 3] (by kernel_rfl) ?_
  refine WL.binC (v := .bool false) rfl rfl rfl rfl (fun _ => by kernel_rfl) ?_
  refine WL.sub [(0, .slice (some ⟨sh, 0, none⟩) k cp), (2, .slice none 0 0), (4, .bool false)] ⟨rfl, rfl, rfl, trivial⟩ ?_
  refine WL.nil ?_
  refine hK3 _ _ _ ?_
  refine CW.condF rfl ?_
  refine CW.skip ?_
  refine hK2 _ _ _ ?_
  refine CW.seq fun K4 hK4 => ?_
  refine CW.region ?_
  refine WL.buildSlice0 rfl rfl Tryz.underlying32 siz107 ?_
  intro w5 b6 h7 u8 g9
  refine WL.to (E' := [(2, .slice none 0 0), (5, .slice (some ⟨b6, 0, none⟩) 0 0), (6, .slice (some ⟨sh, 0, none⟩) k cp)]) 1 [2, 5, 6] (by kernel_rfl) ?_
  have h10 := (hb.keep u8 nm0)
  refine WL.appT (k := 0) (xs := []) (m := k) (news := fs) rfl Tryz.underlying32 inf107 rfl rfl rfl rfl rfl (Own.empty h7) h10 (by rw [List.drop_zero, ← hl, List.take_left]) hl h1 ⟨by omega, by omega⟩ ?_
  intro v11 w12 h13 u14 f15
  rw [Nat.zero_add, List.nil_append] at h13
  obtain ⟨ao16, cp17, rfl⟩ := h13.form
  refine WL.to (E' := [(2, .slice ao16 k cp17)]) 1 [2] (by kernel_rfl) ?_
  refine WL.nil ?_
  refine hK4 _ _ _ ?_
  refine CW.ret fun a ha => ?_
  try simp (decide := true) only [Exit.inBlock, Exit.then, ↓reduceIte]
  exact fin ha.defers (res_tmp rfl ha rfl _) ⟨_, _, rfl, h13, ((u8.trans u14).sub (by intro k hk hl; simp only [Value.ownBlock, Option.toList, List.mem_append, List.mem_cons, List.not_mem_nil, or_false, false_or] at hk; have := g9; have := u8.size; have := u14.size; omega)), fun c hc => (f15 c hc).elim (fun h => by simp [Value.ownBlock] at h; subst h; exact g9) (fun h => by have := u8.size; omega)⟩

theorem cloneCc_own {w : World} {ao : Option Addr} {k cp : Nat} {fs : List Value} (h : Own w (.slice ao k cp) 107 1 k fs) (h1 : fs.all Value.oneCell' = true) (hk : k ≤ 1000) :
    Ret Tryz.prog 57 #[.slice ao k cp] w fun v w' => ∃ ao cp', v = .slice ao k cp' ∧ Own w' (.slice ao k cp') 107 1 k fs ∧ Only [] w w' ∧ ∀ b, (Value.slice ao k cp').ownBlock = some b → w.heap.size ≤ b := by
  obtain ⟨hl, h⟩ := h
  rcases h with ⟨h, rfl⟩ | ⟨g, cap, cur, h, _, hg, h3, h4, h5, h6⟩
  · cases h
    have : fs = [] := List.eq_nil_of_length_eq_zero (by simpa using hl)
    subst this
    exact Ret.mono cloneCc_nil (by rintro v w' ⟨rfl, rfl⟩; exact ⟨_, _, rfl, Own.nil, Only.refl _ _, by simp [Value.ownBlock]⟩)
  · cases h
    have e : cur.toList = fs ++ cur.toList.drop (k * 1) := by rw [← h6, List.take_append_drop]
    have hb : Blk w g (fs ++ cur.toList.drop (k * 1)) 107 := by unfold Blk; rw [← e]; simpa using hg
    exact cloneCc hb hl h1 hk

theorem check1 {w : World} {sh cp vb cpv : Nat} {rest rest2 : List Value} {x : Int} {c : UInt8} (hc : 97 ≤ c.toNat ∧ c.toNat ≤ 122) (hcp : 1 ≤ cp) (hs : Blk w sh (.string (⟨#[c]⟩) :: .int .i64 1 :: rest) 51) (hv : Blk w vb (.int .i64 1 :: .int .i64 x :: .string ByteArray.empty :: .float .f64 0 :: rest2) 58) :
    Ret Tryz.prog 69 #[.slice (some ⟨sh, 0, none⟩) 1 cp, .slice (some ⟨vb, 0, none⟩) 1 cpv] w fun v w' => v = .int .i64 0 ∧ Only [] w w' := by
  refine enterL (args := [.slice (some ⟨sh, 0, none⟩) 1 cp, .slice (some ⟨vb, 0, none⟩) 1 cpv]) Tryz.func69 rfl rfl rfl ?_
  refine CW.seq fun K1 hK1 => ?_
  refine CW.region ?_
  refine WL.to (E' := [(0, .slice (some ⟨sh, 0, none⟩) 1 cp), (1, .slice (some ⟨vb, 0, none⟩) 1 cpv), (4, .int .i64 0)]) 1 [0, 1, 4] (by kernel_rfl) ?_
  refine WL.nil ?_
  refine hK1 _ _ _ ?_
  refine CW.seq fun K2 hK2 => ?_
  refine CW.seq fun K3 hK3 => ?_
  refine CW.region ?_
  refine WL.to (E' := [(0, .slice (some ⟨sh, 0, none⟩) 1 cp), (1, .slice (some ⟨vb, 0, none⟩) 1 cpv), (4, .int .i64 0), (7, .slice (some ⟨sh, 0, none⟩) 1 cp)]) 1 [0, 1, 4, 7] (by kernel_rfl) ?_
  refine WL.call rfl rfl rfl rfl ent55 rfl (shape1 (c := c) hc (by omega) hs) ?_
  rintro _ w5 ⟨rfl, u4⟩
  refine WL.to (E' := [(0, .slice (some ⟨sh, 0, none⟩) 1 cp), (1, .slice (some ⟨vb, 0, none⟩) 1 cpv), (4, .int .i64 0), (9, .bool false)]) 1 [0, 1, 4, 9] (by kernel_rfl) ?_
  refine WL.nil ?_
  refine hK3 _ _ _ ?_
  refine CW.condF rfl ?_
  refine CW.skip ?_
  refine hK2 _ _ _ ?_
  refine CW.seq fun K6 hK6 => ?_
  refine CW.seq fun K7 hK7 => ?_
  refine CW.region ?_
  refine WL.to (E' := [(0, .slice (some ⟨sh, 0, none⟩) 1 cp), (1, .slice (some ⟨vb, 0, none⟩) 1 cpv), (4, .int .i64 0), (14, .bool false)]) 5 [0, 1, 4, 14] (by kernel_rfl) ?_
  refine WL.nil ?_
  refine hK7 _ _ _ ?_
  refine CW.condF rfl ?_
  refine CW.skip ?_
  refine hK6 _ _ _ ?_
  refine CW.seq fun K8 hK8 => ?_
  refine CW.seq fun K9 hK9 => ?_
  refine CW.region ?_
  refine WL.to (E' := [(1, .slice (some ⟨vb, 0, none⟩) 1 cpv), (4, .int .i64 0), (15, .slice (some ⟨sh, 0, none⟩) 1 cp), (16, .int .i64 1), (17, .int .i64 0)]) 3 [1, 4, 15, 16, 17] (by kernel_rfl) ?_
  refine WL.nil ?_
  refine hK9 _ _ _ ?_
  refine CW.block ?_
  refine CW.round1 fun K10 hK10 => ?_
  refine CW.seq fun K11 hK11 => ?_
  refine CW.region ?_
  refine WL.to (E' := [(1, .slice (some ⟨vb, 0, none⟩) 1 cpv), (4, .int .i64 0), (15, .slice (some ⟨sh, 0, none⟩) 1 cp), (16, .int .i64 1), (17, .int .i64 0), (18, .bool true)]) 1 [1, 4, 15, 16, 17, 18] (by kernel_rfl) ?_
  refine WL.nil ?_
  refine hK11 _ _ _ ?_
  refine CW.seq fun K12 hK12 => ?_
  refine CW.condT rfl ?_
  refine CW.skip ?_
  refine hK12 _ _ _ ?_
  refine CW.seq fun K13 hK13 => ?_
  refine CW.block ?_
  refine CW.seq fun K14 hK14 => ?_
  refine CW.region ?_
  refine WL.to (E' := [(1, .slice (some ⟨vb, 0, none⟩) 1 cpv), (4, .int .i64 0), (15, .slice (some ⟨sh, 0, none⟩) 1 cp), (16, .int .i64 1), (17, .int .i64 0), (18, .bool true), (19, .int .i64 0)]) 1 [1, 4, 15, 16, 17, 18, 19] (by kernel_rfl) ?_
  refine WL.index rfl rfl Tryz.underlying29 siz51 rfl rfl (by decide) (by decide) ?_
  have h15 := (hs.keep u4 nm0)
  refine WL.loadN rfl agg51 siz51 rfl rfl h15 rfl rfl ?_
  refine WL.alloc (cs := [.string ByteArray.empty, .int .i64 0]) rfl rfl zer51 rfl ?_
  intro w16 b17 h18 u19 g20
  refine WL.to (E' := [(1, .slice (some ⟨vb, 0, none⟩) 1 cpv), (4, .int .i64 0), (15, .slice (some ⟨sh, 0, none⟩) 1 cp), (16, .int .i64 1), (17, .int .i64 0), (18, .bool true), (19, .int .i64 0), (20, .pointer (some ⟨sh, 0, none⟩)), (21, .agg #[.string (⟨#[c]⟩), .int .i64 1]), (6, .pointer (some ⟨b17, 0, none⟩)), (5, .int .i64 0)]) 1 [1, 4, 15, 16, 17, 18, 19, 20, 21, 6, 5] (by kernel_rfl) ?_
  refine WL.storeN rfl siz51 rfl rfl rfl rfl h18 (Nat.le_of_ble_eq_true rfl) ?_
  intro w21 h22 u23 z24
  refine WL.nil ?_
  refine hK14 _ _ _ ?_
  refine CW.seq fun K25 hK25 => ?_
  refine CW.tail 13 (by kernel_rfl) (by kernel_rfl) ?_
  intro w26 e28 u27
  refine ST.to (E' := [(1, .slice (some ⟨vb, 0, none⟩) 1 cpv), (4, .int .i64 0), (15, .slice (some ⟨sh, 0, none⟩) 1 cp), (16, .int .i64 1), (17, .int .i64 0), (18, .bool true), (19, .int .i64 0), (20, .pointer (some ⟨sh, 0, none⟩)), (21, .agg #[.string (⟨#[c]⟩), .int .i64 1]), (6, .pointer (some ⟨b17, 0, none⟩)), (5, .int .i64 0), (22, .slice (some ⟨vb, 0, none⟩) 1 cpv), (23, .int .i64 0)]) 2 [1, 4, 15, 16, 17, 18, 19, 20, 21, 6, 5, 22, 23] (by kernel_rfl) ?_
  refine ST.index rfl rfl Tryz.underlying38 siz58 rfl rfl (by decide) (by decide) ?_
  refine ST.to (E' := [(1, .slice (some ⟨vb, 0, none⟩) 1 cpv), (4, .int .i64 0), (15, .slice (some ⟨sh, 0, none⟩) 1 cp), (16, .int .i64 1), (17, .int .i64 0), (18, .bool true), (19, .int .i64 0), (20, .pointer (some ⟨sh, 0, none⟩)), (21, .agg #[.string (⟨#[c]⟩), .int .i64 1]), (6, .pointer (some ⟨b17, 0, none⟩)), (5, .int .i64 0), (22, .slice (some ⟨vb, 0, none⟩) 1 cpv), (23, .int .i64 0), (24, .pointer (some ⟨vb, 0, none⟩)), (25, .pointer (some ⟨vb, 0, none⟩))]) 1 [1, 4, 15, 16, 17, 18, 19, 20, 21, 6, 5, 22, 23, 24, 25] (by kernel_rfl) ?_
  have h29 := ((hv.keep u4 nm0).keep u19 nm0)
  have h30 := ((h29.keep u23 (nmc (Blk.ne h29 h18 rfl) nm0)).keep u27 nm0)
  refine ST.load1 rfl agg3 rfl rfl h30 rfl ?_
  refine ST.to (E' := [(1, .slice (some ⟨vb, 0, none⟩) 1 cpv), (4, .int .i64 0), (15, .slice (some ⟨sh, 0, none⟩) 1 cp), (16, .int .i64 1), (17, .int .i64 0), (18, .bool true), (19, .int .i64 0), (20, .pointer (some ⟨sh, 0, none⟩)), (21, .agg #[.string (⟨#[c]⟩), .int .i64 1]), (6, .pointer (some ⟨b17, 0, none⟩)), (5, .int .i64 0), (22, .slice (some ⟨vb, 0, none⟩) 1 cpv), (23, .int .i64 0), (24, .pointer (some ⟨vb, 0, none⟩)), (25, .pointer (some ⟨vb, 0, none⟩)), (26, .int .i64 1), (27, .pointer (some ⟨b17, 1, none⟩))]) 1 [1, 4, 15, 16, 17, 18, 19, 20, 21, 6, 5, 22, 23, 24, 25, 26, 27] (by kernel_rfl) ?_
  have h31 := (h22.keep u27 nm0)
  refine ST.load1 rfl agg3 rfl rfl h31 rfl ?_
  refine ST.to (E' := [(1, .slice (some ⟨vb, 0, none⟩) 1 cpv), (4, .int .i64 0), (15, .slice (some ⟨sh, 0, none⟩) 1 cp), (16, .int .i64 1), (17, .int .i64 0), (18, .bool true), (19, .int .i64 0), (20, .pointer (some ⟨sh, 0, none⟩)), (21, .agg #[.string (⟨#[c]⟩), .int .i64 1]), (6, .pointer (some ⟨b17, 0, none⟩)), (5, .int .i64 0), (22, .slice (some ⟨vb, 0, none⟩) 1 cpv), (23, .int .i64 0), (24, .pointer (some ⟨vb, 0, none⟩)), (25, .pointer (some ⟨vb, 0, none⟩)), (26, .int .i64 1), (27, .pointer (some ⟨b17, 1, none⟩)), (28, .int .i64 1), (29, .bool false), (30, .bool false), (31, .slice (some ⟨vb, 0, none⟩) 1 cpv), (32, .int .i64 0)]) 4 [1, 4, 15, 16, 17, 18, 19, 20, 21, 6, 5, 22, 23, 24, 25, 26, 27, 28, 29, 30, 31, 32] (by kernel_rfl) ?_
  refine ST.index rfl rfl Tryz.underlying38 siz58 rfl rfl (by decide) (by decide) ?_
  refine ST.loadN rfl agg58 siz58 rfl rfl h30 rfl rfl ?_
  refine ST.nil ?_
  change WL _ _ _ _ _ _ _ _
  refine WL.call rfl rfl rfl rfl ent105 rfl (isnum) ?_
  rintro _ w33 ⟨rfl, u32⟩
  refine WL.to (E' := [(1, .slice (some ⟨vb, 0, none⟩) 1 cpv), (4, .int .i64 0), (15, .slice (some ⟨sh, 0, none⟩) 1 cp), (16, .int .i64 1), (17, .int .i64 0), (18, .bool true), (19, .int .i64 0), (20, .pointer (some ⟨sh, 0, none⟩)), (21, .agg #[.string (⟨#[c]⟩), .int .i64 1]), (6, .pointer (some ⟨b17, 0, none⟩)), (5, .int .i64 0), (22, .slice (some ⟨vb, 0, none⟩) 1 cpv), (23, .int .i64 0), (24, .pointer (some ⟨vb, 0, none⟩)), (25, .pointer (some ⟨vb, 0, none⟩)), (26, .int .i64 1), (27, .pointer (some ⟨b17, 1, none⟩)), (28, .int .i64 1), (29, .bool false), (30, .bool false), (31, .slice (some ⟨vb, 0, none⟩) 1 cpv), (32, .int .i64 0), (33, .pointer (some ⟨vb, 0, none⟩)), (34, .agg #[.int .i64 1, .int .i64 x, .string ByteArray.empty, .float .f64 0]), (35, .bool true), (36, .bool false), (37, .bool false)]) 2 [1, 4, 15, 16, 17, 18, 19, 20, 21, 6, 5, 22, 23, 24, 25, 26, 27, 28, 29, 30, 31, 32, 33, 34, 35, 36, 37] (by kernel_rfl) ?_
  refine WL.nil ?_
  refine hK25 _ _ _ ?_
  refine CW.condF rfl ?_
  refine CW.skip ?_
  refine hK13 _ _ _ ?_
  refine CW.region ?_
  refine WL.to (E' := [(1, .slice (some ⟨vb, 0, none⟩) 1 cpv), (4, .int .i64 0), (15, .slice (some ⟨sh, 0, none⟩) 1 cp), (16, .int .i64 1), (17, .int .i64 1), (18, .bool true), (19, .int .i64 0), (20, .pointer (some ⟨sh, 0, none⟩)), (21, .agg #[.string (⟨#[c]⟩), .int .i64 1]), (6, .pointer (some ⟨b17, 0, none⟩)), (5, .int .i64 0), (22, .slice (some ⟨vb, 0, none⟩) 1 cpv), (23, .int .i64 0), (24, .pointer (some ⟨vb, 0, none⟩)), (25, .pointer (some ⟨vb, 0, none⟩)), (26, .int .i64 1), (27, .pointer (some ⟨b17, 1, none⟩)), (28, .int .i64 1), (29, .bool false), (30, .bool false), (31, .slice (some ⟨vb, 0, none⟩) 1 cpv), (32, .int .i64 0), (33, .pointer (some ⟨vb, 0, none⟩)), (34, .agg #[.int .i64 1, .int .i64 x, .string ByteArray.empty, .float .f64 0]), (35, .bool true), (36, .bool false), (37, .bool false), (38, .int .i64 1)]) 2 [1, 4, 15, 16, 17, 18, 19, 20, 21, 6, 5, 22, 23, 24, 25, 26, 27, 28, 29, 30, 31, 32, 33, 34, 35, 36, 37, 38] (by kernel_rfl) ?_
  refine WL.nil ?_
  refine hK10 _ _ ?_
  refine CL.round fun K34 hK34 => ?_
  refine CW.seq fun K35 hK35 => ?_
  refine CW.region ?_
  refine WL.to (E' := [(1, .slice (some ⟨vb, 0, none⟩) 1 cpv), (4, .int .i64 0), (15, .slice (some ⟨sh, 0, none⟩) 1 cp), (16, .int .i64 1), (17, .int .i64 1), (18, .bool false), (19, .int .i64 0), (20, .pointer (some ⟨sh, 0, none⟩)), (21, .agg #[.string (⟨#[c]⟩), .int .i64 1]), (6, .pointer (some ⟨b17, 0, none⟩)), (5, .int .i64 0), (22, .slice (some ⟨vb, 0, none⟩) 1 cpv), (23, .int .i64 0), (24, .pointer (some ⟨vb, 0, none⟩)), (25, .pointer (some ⟨vb, 0, none⟩)), (26, .int .i64 1), (27, .pointer (some ⟨b17, 1, none⟩)), (28, .int .i64 1), (29, .bool false), (30, .bool false), (31, .slice (some ⟨vb, 0, none⟩) 1 cpv), (32, .int .i64 0), (33, .pointer (some ⟨vb, 0, none⟩)), (34, .agg #[.int .i64 1, .int .i64 x, .string ByteArray.empty, .float .f64 0]), (35, .bool true), (36, .bool false), (37, .bool false), (38, .int .i64 1)]) 1 [1, 4, 15, 16, 17, 18, 19, 20, 21, 6, 5, 22, 23, 24, 25, 26, 27, 28, 29, 30, 31, 32, 33, 34, 35, 36, 37, 38] (by kernel_rfl) ?_
  refine WL.nil ?_
  refine hK35 _ _ _ ?_
  refine CW.seq fun K36 hK36 => ?_
  refine CW.condF rfl ?_
  refine CW.exit ?_
  refine hK8 _ _ _ ?_
  refine CW.seq fun K37 hK37 => ?_
  refine CW.region ?_
  refine WL.to (E' := [(4, .int .i64 0)]) 1 [4] (by kernel_rfl) ?_
  refine WL.nil ?_
  refine hK37 _ _ _ ?_
  refine CW.ret fun a ha => ?_
  try simp (decide := true) only [Exit.inBlock, Exit.then, ↓reduceIte]
  exact fin ha.defers (res_tmp rfl ha rfl _) ⟨rfl, (((((u4.trans u19).trans u23).trans u27).trans u32).sub (by intro k hk hl; simp only [Value.ownBlock, Option.toList, List.mem_append, List.mem_cons, List.not_mem_nil, or_false, false_or] at hk; have := g20; have := u4.size; have := u19.size; have := u23.size; have := u27.size; have := u32.size; omega))⟩

theorem check2 {w : World} {sh cp vb cpv : Nat} {rest rest2 : List Value} {x y : Int} (hcp : 2 ≤ cp) (hs : Blk w sh (.string (⟨#[97]⟩) :: .int .i64 1 :: .string (⟨#[98]⟩) :: .int .i64 1 :: rest) 51) (hv : Blk w vb (.int .i64 1 :: .int .i64 x :: .string ByteArray.empty :: .float .f64 0 :: .int .i64 1 :: .int .i64 y :: .string ByteArray.empty :: .float .f64 0 :: rest2) 58) :
    Ret Tryz.prog 69 #[.slice (some ⟨sh, 0, none⟩) 2 cp, .slice (some ⟨vb, 0, none⟩) 2 cpv] w fun v w' => v = .int .i64 0 ∧ Only [] w w' := by
  refine enterL (args := [.slice (some ⟨sh, 0, none⟩) 2 cp, .slice (some ⟨vb, 0, none⟩) 2 cpv]) Tryz.func69 rfl rfl rfl ?_
  refine CW.seq fun K1 hK1 => ?_
  refine CW.region ?_
  refine WL.to (E' := [(0, .slice (some ⟨sh, 0, none⟩) 2 cp), (1, .slice (some ⟨vb, 0, none⟩) 2 cpv), (4, .int .i64 0)]) 1 [0, 1, 4] (by kernel_rfl) ?_
  refine WL.nil ?_
  refine hK1 _ _ _ ?_
  refine CW.seq fun K2 hK2 => ?_
  refine CW.seq fun K3 hK3 => ?_
  refine CW.region ?_
  refine WL.to (E' := [(0, .slice (some ⟨sh, 0, none⟩) 2 cp), (1, .slice (some ⟨vb, 0, none⟩) 2 cpv), (4, .int .i64 0), (7, .slice (some ⟨sh, 0, none⟩) 2 cp)]) 1 [0, 1, 4, 7] (by kernel_rfl) ?_
  refine WL.call rfl rfl rfl rfl ent55 rfl (shape2 (by omega) hs) ?_
  rintro _ w5 ⟨rfl, u4⟩
  refine WL.to (E' := [(0, .slice (some ⟨sh, 0, none⟩) 2 cp), (1, .slice (some ⟨vb, 0, none⟩) 2 cpv), (4, .int .i64 0), (9, .bool false)]) 1 [0, 1, 4, 9] (by kernel_rfl) ?_
  refine WL.nil ?_
  refine hK3 _ _ _ ?_
  refine CW.condF rfl ?_
  refine CW.skip ?_
  refine hK2 _ _ _ ?_
  refine CW.seq fun K6 hK6 => ?_
  refine CW.seq fun K7 hK7 => ?_
  refine CW.region ?_
  refine WL.to (E' := [(0, .slice (some ⟨sh, 0, none⟩) 2 cp), (1, .slice (some ⟨vb, 0, none⟩) 2 cpv), (4, .int .i64 0), (14, .bool false)]) 5 [0, 1, 4, 14] (by kernel_rfl) ?_
  refine WL.nil ?_
  refine hK7 _ _ _ ?_
  refine CW.condF rfl ?_
  refine CW.skip ?_
  refine hK6 _ _ _ ?_
  refine CW.seq fun K8 hK8 => ?_
  refine CW.seq fun K9 hK9 => ?_
  refine CW.region ?_
  refine WL.to (E' := [(1, .slice (some ⟨vb, 0, none⟩) 2 cpv), (4, .int .i64 0), (15, .slice (some ⟨sh, 0, none⟩) 2 cp), (16, .int .i64 2), (17, .int .i64 0)]) 3 [1, 4, 15, 16, 17] (by kernel_rfl) ?_
  refine WL.nil ?_
  refine hK9 _ _ _ ?_
  refine CW.block ?_
  refine CW.round1 fun K10 hK10 => ?_
  refine CW.seq fun K11 hK11 => ?_
  refine CW.region ?_
  refine WL.to (E' := [(1, .slice (some ⟨vb, 0, none⟩) 2 cpv), (4, .int .i64 0), (15, .slice (some ⟨sh, 0, none⟩) 2 cp), (16, .int .i64 2), (17, .int .i64 0), (18, .bool true)]) 1 [1, 4, 15, 16, 17, 18] (by kernel_rfl) ?_
  refine WL.nil ?_
  refine hK11 _ _ _ ?_
  refine CW.seq fun K12 hK12 => ?_
  refine CW.condT rfl ?_
  refine CW.skip ?_
  refine hK12 _ _ _ ?_
  refine CW.seq fun K13 hK13 => ?_
  refine CW.block ?_
  refine CW.seq fun K14 hK14 => ?_
  refine CW.region ?_
  refine WL.to (E' := [(1, .slice (some ⟨vb, 0, none⟩) 2 cpv), (4, .int .i64 0), (15, .slice (some ⟨sh, 0, none⟩) 2 cp), (16, .int .i64 2), (17, .int .i64 0), (18, .bool true), (19, .int .i64 0)]) 1 [1, 4, 15, 16, 17, 18, 19] (by kernel_rfl) ?_
  refine WL.index rfl rfl Tryz.underlying29 siz51 rfl rfl (by decide) (by decide) ?_
  have h15 := (hs.keep u4 nm0)
  refine WL.loadN rfl agg51 siz51 rfl rfl h15 rfl rfl ?_
  refine WL.alloc (cs := [.string ByteArray.empty, .int .i64 0]) rfl rfl zer51 rfl ?_
  intro w16 b17 h18 u19 g20
  refine WL.to (E' := [(1, .slice (some ⟨vb, 0, none⟩) 2 cpv), (4, .int .i64 0), (15, .slice (some ⟨sh, 0, none⟩) 2 cp), (16, .int .i64 2), (17, .int .i64 0), (18, .bool true), (19, .int .i64 0), (20, .pointer (some ⟨sh, 0, none⟩)), (21, .agg #[.string (⟨#[97]⟩), .int .i64 1]), (6, .pointer (some ⟨b17, 0, none⟩)), (5, .int .i64 0)]) 1 [1, 4, 15, 16, 17, 18, 19, 20, 21, 6, 5] (by kernel_rfl) ?_
  refine WL.storeN rfl siz51 rfl rfl rfl rfl h18 (Nat.le_of_ble_eq_true rfl) ?_
  intro w21 h22 u23 z24
  refine WL.nil ?_
  refine hK14 _ _ _ ?_
  refine CW.seq fun K25 hK25 => ?_
  refine CW.tail 13 (by kernel_rfl) (by kernel_rfl) ?_
  intro w26 e28 u27
  refine ST.to (E' := [(1, .slice (some ⟨vb, 0, none⟩) 2 cpv), (4, .int .i64 0), (15, .slice (some ⟨sh, 0, none⟩) 2 cp), (16, .int .i64 2), (17, .int .i64 0), (18, .bool true), (19, .int .i64 0), (20, .pointer (some ⟨sh, 0, none⟩)), (21, .agg #[.string (⟨#[97]⟩), .int .i64 1]), (6, .pointer (some ⟨b17, 0, none⟩)), (5, .int .i64 0), (22, .slice (some ⟨vb, 0, none⟩) 2 cpv), (23, .int .i64 0)]) 2 [1, 4, 15, 16, 17, 18, 19, 20, 21, 6, 5, 22, 23] (by kernel_rfl) ?_
  refine ST.index rfl rfl Tryz.underlying38 siz58 rfl rfl (by decide) (by decide) ?_
  refine ST.to (E' := [(1, .slice (some ⟨vb, 0, none⟩) 2 cpv), (4, .int .i64 0), (15, .slice (some ⟨sh, 0, none⟩) 2 cp), (16, .int .i64 2), (17, .int .i64 0), (18, .bool true), (19, .int .i64 0), (20, .pointer (some ⟨sh, 0, none⟩)), (21, .agg #[.string (⟨#[97]⟩), .int .i64 1]), (6, .pointer (some ⟨b17, 0, none⟩)), (5, .int .i64 0), (22, .slice (some ⟨vb, 0, none⟩) 2 cpv), (23, .int .i64 0), (24, .pointer (some ⟨vb, 0, none⟩)), (25, .pointer (some ⟨vb, 0, none⟩))]) 1 [1, 4, 15, 16, 17, 18, 19, 20, 21, 6, 5, 22, 23, 24, 25] (by kernel_rfl) ?_
  have h29 := ((hv.keep u4 nm0).keep u19 nm0)
  have h30 := ((h29.keep u23 (nmc (Blk.ne h29 h18 rfl) nm0)).keep u27 nm0)
  refine ST.load1 rfl agg3 rfl rfl h30 rfl ?_
  refine ST.to (E' := [(1, .slice (some ⟨vb, 0, none⟩) 2 cpv), (4, .int .i64 0), (15, .slice (some ⟨sh, 0, none⟩) 2 cp), (16, .int .i64 2), (17, .int .i64 0), (18, .bool true), (19, .int .i64 0), (20, .pointer (some ⟨sh, 0, none⟩)), (21, .agg #[.string (⟨#[97]⟩), .int .i64 1]), (6, .pointer (some ⟨b17, 0, none⟩)), (5, .int .i64 0), (22, .slice (some ⟨vb, 0, none⟩) 2 cpv), (23, .int .i64 0), (24, .pointer (some ⟨vb, 0, none⟩)), (25, .pointer (some ⟨vb, 0, none⟩)), (26, .int .i64 1), (27, .pointer (some ⟨b17, 1, none⟩))]) 1 [1, 4, 15, 16, 17, 18, 19, 20, 21, 6, 5, 22, 23, 24, 25, 26, 27] (by kernel_rfl) ?_
  have h31 := (h22.keep u27 nm0)
  refine ST.load1 rfl agg3 rfl rfl h31 rfl ?_
  refine ST.to (E' := [(1, .slice (some ⟨vb, 0, none⟩) 2 cpv), (4, .int .i64 0), (15, .slice (some ⟨sh, 0, none⟩) 2 cp), (16, .int .i64 2), (17, .int .i64 0), (18, .bool true), (19, .int .i64 0), (20, .pointer (some ⟨sh, 0, none⟩)), (21, .agg #[.string (⟨#[97]⟩), .int .i64 1]), (6, .pointer (some ⟨b17, 0, none⟩)), (5, .int .i64 0), (22, .slice (some ⟨vb, 0, none⟩) 2 cpv), (23, .int .i64 0), (24, .pointer (some ⟨vb, 0, none⟩)), (25, .pointer (some ⟨vb, 0, none⟩)), (26, .int .i64 1), (27, .pointer (some ⟨b17, 1, none⟩)), (28, .int .i64 1), (29, .bool false), (30, .bool false), (31, .slice (some ⟨vb, 0, none⟩) 2 cpv), (32, .int .i64 0)]) 4 [1, 4, 15, 16, 17, 18, 19, 20, 21, 6, 5, 22, 23, 24, 25, 26, 27, 28, 29, 30, 31, 32] (by kernel_rfl) ?_
  refine ST.index rfl rfl Tryz.underlying38 siz58 rfl rfl (by decide) (by decide) ?_
  refine ST.loadN rfl agg58 siz58 rfl rfl h30 rfl rfl ?_
  refine ST.nil ?_
  change WL _ _ _ _ _ _ _ _
  refine WL.call rfl rfl rfl rfl ent105 rfl (isnum) ?_
  rintro _ w33 ⟨rfl, u32⟩
  refine WL.to (E' := [(1, .slice (some ⟨vb, 0, none⟩) 2 cpv), (4, .int .i64 0), (15, .slice (some ⟨sh, 0, none⟩) 2 cp), (16, .int .i64 2), (17, .int .i64 0), (18, .bool true), (19, .int .i64 0), (20, .pointer (some ⟨sh, 0, none⟩)), (21, .agg #[.string (⟨#[97]⟩), .int .i64 1]), (6, .pointer (some ⟨b17, 0, none⟩)), (5, .int .i64 0), (22, .slice (some ⟨vb, 0, none⟩) 2 cpv), (23, .int .i64 0), (24, .pointer (some ⟨vb, 0, none⟩)), (25, .pointer (some ⟨vb, 0, none⟩)), (26, .int .i64 1), (27, .pointer (some ⟨b17, 1, none⟩)), (28, .int .i64 1), (29, .bool false), (30, .bool false), (31, .slice (some ⟨vb, 0, none⟩) 2 cpv), (32, .int .i64 0), (33, .pointer (some ⟨vb, 0, none⟩)), (34, .agg #[.int .i64 1, .int .i64 x, .string ByteArray.empty, .float .f64 0]), (35, .bool true), (36, .bool false), (37, .bool false)]) 2 [1, 4, 15, 16, 17, 18, 19, 20, 21, 6, 5, 22, 23, 24, 25, 26, 27, 28, 29, 30, 31, 32, 33, 34, 35, 36, 37] (by kernel_rfl) ?_
  refine WL.nil ?_
  refine hK25 _ _ _ ?_
  refine CW.condF rfl ?_
  refine CW.skip ?_
  refine hK13 _ _ _ ?_
  refine CW.region ?_
  refine WL.to (E' := [(1, .slice (some ⟨vb, 0, none⟩) 2 cpv), (4, .int .i64 0), (15, .slice (some ⟨sh, 0, none⟩) 2 cp), (16, .int .i64 2), (17, .int .i64 1), (18, .bool true), (19, .int .i64 0), (20, .pointer (some ⟨sh, 0, none⟩)), (21, .agg #[.string (⟨#[97]⟩), .int .i64 1]), (6, .pointer (some ⟨b17, 0, none⟩)), (5, .int .i64 0), (22, .slice (some ⟨vb, 0, none⟩) 2 cpv), (23, .int .i64 0), (24, .pointer (some ⟨vb, 0, none⟩)), (25, .pointer (some ⟨vb, 0, none⟩)), (26, .int .i64 1), (27, .pointer (some ⟨b17, 1, none⟩)), (28, .int .i64 1), (29, .bool false), (30, .bool false), (31, .slice (some ⟨vb, 0, none⟩) 2 cpv), (32, .int .i64 0), (33, .pointer (some ⟨vb, 0, none⟩)), (34, .agg #[.int .i64 1, .int .i64 x, .string ByteArray.empty, .float .f64 0]), (35, .bool true), (36, .bool false), (37, .bool false), (38, .int .i64 1)]) 2 [1, 4, 15, 16, 17, 18, 19, 20, 21, 6, 5, 22, 23, 24, 25, 26, 27, 28, 29, 30, 31, 32, 33, 34, 35, 36, 37, 38] (by kernel_rfl) ?_
  refine WL.nil ?_
  refine hK10 _ _ ?_
  refine CL.round fun K34 hK34 => ?_
  refine CW.seq fun K35 hK35 => ?_
  refine CW.region ?_
  refine WL.to (E' := [(1, .slice (some ⟨vb, 0, none⟩) 2 cpv), (4, .int .i64 0), (15, .slice (some ⟨sh, 0, none⟩) 2 cp), (16, .int .i64 2), (17, .int .i64 1), (18, .bool true), (19, .int .i64 0), (20, .pointer (some ⟨sh, 0, none⟩)), (21, .agg #[.string (⟨#[97]⟩), .int .i64 1]), (6, .pointer (some ⟨b17, 0, none⟩)), (5, .int .i64 0), (22, .slice (some ⟨vb, 0, none⟩) 2 cpv), (23, .int .i64 0), (24, .pointer (some ⟨vb, 0, none⟩)), (25, .pointer (some ⟨vb, 0, none⟩)), (26, .int .i64 1), (27, .pointer (some ⟨b17, 1, none⟩)), (28, .int .i64 1), (29, .bool false), (30, .bool false), (31, .slice (some ⟨vb, 0, none⟩) 2 cpv), (32, .int .i64 0), (33, .pointer (some ⟨vb, 0, none⟩)), (34, .agg #[.int .i64 1, .int .i64 x, .string ByteArray.empty, .float .f64 0]), (35, .bool true), (36, .bool false), (37, .bool false), (38, .int .i64 1)]) 1 [1, 4, 15, 16, 17, 18, 19, 20, 21, 6, 5, 22, 23, 24, 25, 26, 27, 28, 29, 30, 31, 32, 33, 34, 35, 36, 37, 38] (by kernel_rfl) ?_
  refine WL.nil ?_
  refine hK35 _ _ _ ?_
  refine CW.seq fun K36 hK36 => ?_
  refine CW.condT rfl ?_
  refine CW.skip ?_
  refine hK36 _ _ _ ?_
  refine CW.seq fun K37 hK37 => ?_
  refine CW.block ?_
  refine CW.seq fun K38 hK38 => ?_
  refine CW.region ?_
  refine WL.to (E' := [(1, .slice (some ⟨vb, 0, none⟩) 2 cpv), (4, .int .i64 0), (15, .slice (some ⟨sh, 0, none⟩) 2 cp), (16, .int .i64 2), (17, .int .i64 1), (18, .bool true), (19, .int .i64 1), (20, .pointer (some ⟨sh, 0, none⟩)), (21, .agg #[.string (⟨#[97]⟩), .int .i64 1]), (6, .pointer (some ⟨b17, 0, none⟩)), (5, .int .i64 0), (22, .slice (some ⟨vb, 0, none⟩) 2 cpv), (23, .int .i64 0), (24, .pointer (some ⟨vb, 0, none⟩)), (25, .pointer (some ⟨vb, 0, none⟩)), (26, .int .i64 1), (27, .pointer (some ⟨b17, 1, none⟩)), (28, .int .i64 1), (29, .bool false), (30, .bool false), (31, .slice (some ⟨vb, 0, none⟩) 2 cpv), (32, .int .i64 0), (33, .pointer (some ⟨vb, 0, none⟩)), (34, .agg #[.int .i64 1, .int .i64 x, .string ByteArray.empty, .float .f64 0]), (35, .bool true), (36, .bool false), (37, .bool false), (38, .int .i64 1)]) 1 [1, 4, 15, 16, 17, 18, 19, 20, 21, 6, 5, 22, 23, 24, 25, 26, 27, 28, 29, 30, 31, 32, 33, 34, 35, 36, 37, 38] (by kernel_rfl) ?_
  refine WL.index rfl rfl Tryz.underlying29 siz51 rfl rfl (by decide) (by decide) ?_
  have h39 := (h15.keep u19 nm0)
  have h40 := (((h39.keep u23 (nmc (by have := hs.lt; have := g20; have := u4.size; omega) nm0)).keep u27 nm0).keep u32 nm0)
  refine WL.loadN rfl agg51 siz51 rfl rfl h40 rfl rfl ?_
  refine WL.alloc (cs := [.string ByteArray.empty, .int .i64 0]) rfl rfl zer51 rfl ?_
  intro w41 b42 h43 u44 g45
  refine WL.to (E' := [(1, .slice (some ⟨vb, 0, none⟩) 2 cpv), (4, .int .i64 0), (15, .slice (some ⟨sh, 0, none⟩) 2 cp), (16, .int .i64 2), (17, .int .i64 1), (18, .bool true), (19, .int .i64 1), (20, .pointer (some ⟨sh, 2, none⟩)), (21, .agg #[.string (⟨#[98]⟩), .int .i64 1]), (6, .pointer (some ⟨b42, 0, none⟩)), (5, .int .i64 1), (22, .slice (some ⟨vb, 0, none⟩) 2 cpv), (23, .int .i64 0), (24, .pointer (some ⟨vb, 0, none⟩)), (25, .pointer (some ⟨vb, 0, none⟩)), (26, .int .i64 1), (27, .pointer (some ⟨b17, 1, none⟩)), (28, .int .i64 1), (29, .bool false), (30, .bool false), (31, .slice (some ⟨vb, 0, none⟩) 2 cpv), (32, .int .i64 0), (33, .pointer (some ⟨vb, 0, none⟩)), (34, .agg #[.int .i64 1, .int .i64 x, .string ByteArray.empty, .float .f64 0]), (35, .bool true), (36, .bool false), (37, .bool false), (38, .int .i64 1)]) 1 [1, 4, 15, 16, 17, 18, 19, 20, 21, 6, 5, 22, 23, 24, 25, 26, 27, 28, 29, 30, 31, 32, 33, 34, 35, 36, 37, 38] (by kernel_rfl) ?_
  refine WL.storeN rfl siz51 rfl rfl rfl rfl h43 (Nat.le_of_ble_eq_true rfl) ?_
  intro w46 h47 u48 z49
  refine WL.nil ?_
  refine hK38 _ _ _ ?_
  refine CW.seq fun K50 hK50 => ?_
  refine CW.tail 13 (by kernel_rfl) (by kernel_rfl) ?_
  intro w51 e53 u52
  refine ST.to (E' := [(1, .slice (some ⟨vb, 0, none⟩) 2 cpv), (4, .int .i64 0), (15, .slice (some ⟨sh, 0, none⟩) 2 cp), (16, .int .i64 2), (17, .int .i64 1), (18, .bool true), (19, .int .i64 1), (20, .pointer (some ⟨sh, 2, none⟩)), (21, .agg #[.string (⟨#[98]⟩), .int .i64 1]), (6, .pointer (some ⟨b42, 0, none⟩)), (5, .int .i64 1), (22, .slice (some ⟨vb, 0, none⟩) 2 cpv), (23, .int .i64 1), (24, .pointer (some ⟨vb, 0, none⟩)), (25, .pointer (some ⟨vb, 0, none⟩)), (26, .int .i64 1), (27, .pointer (some ⟨b17, 1, none⟩)), (28, .int .i64 1), (29, .bool false), (30, .bool false), (31, .slice (some ⟨vb, 0, none⟩) 2 cpv), (32, .int .i64 0), (33, .pointer (some ⟨vb, 0, none⟩)), (34, .agg #[.int .i64 1, .int .i64 x, .string ByteArray.empty, .float .f64 0]), (35, .bool true), (36, .bool false), (37, .bool false), (38, .int .i64 1)]) 2 [1, 4, 15, 16, 17, 18, 19, 20, 21, 6, 5, 22, 23, 24, 25, 26, 27, 28, 29, 30, 31, 32, 33, 34, 35, 36, 37, 38] (by kernel_rfl) ?_
  refine ST.index rfl rfl Tryz.underlying38 siz58 rfl rfl (by decide) (by decide) ?_
  refine ST.to (E' := [(1, .slice (some ⟨vb, 0, none⟩) 2 cpv), (4, .int .i64 0), (15, .slice (some ⟨sh, 0, none⟩) 2 cp), (16, .int .i64 2), (17, .int .i64 1), (18, .bool true), (19, .int .i64 1), (20, .pointer (some ⟨sh, 2, none⟩)), (21, .agg #[.string (⟨#[98]⟩), .int .i64 1]), (6, .pointer (some ⟨b42, 0, none⟩)), (5, .int .i64 1), (22, .slice (some ⟨vb, 0, none⟩) 2 cpv), (23, .int .i64 1), (24, .pointer (some ⟨vb, 4, none⟩)), (25, .pointer (some ⟨vb, 4, none⟩)), (26, .int .i64 1), (27, .pointer (some ⟨b17, 1, none⟩)), (28, .int .i64 1), (29, .bool false), (30, .bool false), (31, .slice (some ⟨vb, 0, none⟩) 2 cpv), (32, .int .i64 0), (33, .pointer (some ⟨vb, 0, none⟩)), (34, .agg #[.int .i64 1, .int .i64 x, .string ByteArray.empty, .float .f64 0]), (35, .bool true), (36, .bool false), (37, .bool false), (38, .int .i64 1)]) 1 [1, 4, 15, 16, 17, 18, 19, 20, 21, 6, 5, 22, 23, 24, 25, 26, 27, 28, 29, 30, 31, 32, 33, 34, 35, 36, 37, 38] (by kernel_rfl) ?_
  have h54 := ((h30.keep u32 nm0).keep u44 nm0)
  have h55 := ((h54.keep u48 (nmc (Blk.ne h54 h43 rfl) nm0)).keep u52 nm0)
  refine ST.load1 rfl agg3 rfl rfl h55 rfl ?_
  refine ST.to (E' := [(1, .slice (some ⟨vb, 0, none⟩) 2 cpv), (4, .int .i64 0), (15, .slice (some ⟨sh, 0, none⟩) 2 cp), (16, .int .i64 2), (17, .int .i64 1), (18, .bool true), (19, .int .i64 1), (20, .pointer (some ⟨sh, 2, none⟩)), (21, .agg #[.string (⟨#[98]⟩), .int .i64 1]), (6, .pointer (some ⟨b42, 0, none⟩)), (5, .int .i64 1), (22, .slice (some ⟨vb, 0, none⟩) 2 cpv), (23, .int .i64 1), (24, .pointer (some ⟨vb, 4, none⟩)), (25, .pointer (some ⟨vb, 4, none⟩)), (26, .int .i64 1), (27, .pointer (some ⟨b42, 1, none⟩)), (28, .int .i64 1), (29, .bool false), (30, .bool false), (31, .slice (some ⟨vb, 0, none⟩) 2 cpv), (32, .int .i64 0), (33, .pointer (some ⟨vb, 0, none⟩)), (34, .agg #[.int .i64 1, .int .i64 x, .string ByteArray.empty, .float .f64 0]), (35, .bool true), (36, .bool false), (37, .bool false), (38, .int .i64 1)]) 1 [1, 4, 15, 16, 17, 18, 19, 20, 21, 6, 5, 22, 23, 24, 25, 26, 27, 28, 29, 30, 31, 32, 33, 34, 35, 36, 37, 38] (by kernel_rfl) ?_
  have h56 := (h47.keep u52 nm0)
  refine ST.load1 rfl agg3 rfl rfl h56 rfl ?_
  refine ST.to (E' := [(1, .slice (some ⟨vb, 0, none⟩) 2 cpv), (4, .int .i64 0), (15, .slice (some ⟨sh, 0, none⟩) 2 cp), (16, .int .i64 2), (17, .int .i64 1), (18, .bool true), (19, .int .i64 1), (20, .pointer (some ⟨sh, 2, none⟩)), (21, .agg #[.string (⟨#[98]⟩), .int .i64 1]), (6, .pointer (some ⟨b42, 0, none⟩)), (5, .int .i64 1), (22, .slice (some ⟨vb, 0, none⟩) 2 cpv), (23, .int .i64 1), (24, .pointer (some ⟨vb, 4, none⟩)), (25, .pointer (some ⟨vb, 4, none⟩)), (26, .int .i64 1), (27, .pointer (some ⟨b42, 1, none⟩)), (28, .int .i64 1), (29, .bool false), (30, .bool false), (31, .slice (some ⟨vb, 0, none⟩) 2 cpv), (32, .int .i64 1), (33, .pointer (some ⟨vb, 0, none⟩)), (34, .agg #[.int .i64 1, .int .i64 x, .string ByteArray.empty, .float .f64 0]), (35, .bool true), (36, .bool false), (37, .bool false), (38, .int .i64 1)]) 4 [1, 4, 15, 16, 17, 18, 19, 20, 21, 6, 5, 22, 23, 24, 25, 26, 27, 28, 29, 30, 31, 32, 33, 34, 35, 36, 37, 38] (by kernel_rfl) ?_
  refine ST.index rfl rfl Tryz.underlying38 siz58 rfl rfl (by decide) (by decide) ?_
  refine ST.loadN rfl agg58 siz58 rfl rfl h55 rfl rfl ?_
  refine ST.nil ?_
  change WL _ _ _ _ _ _ _ _
  refine WL.call rfl rfl rfl rfl ent105 rfl (isnum) ?_
  rintro _ w58 ⟨rfl, u57⟩
  refine WL.to (E' := [(1, .slice (some ⟨vb, 0, none⟩) 2 cpv), (4, .int .i64 0), (15, .slice (some ⟨sh, 0, none⟩) 2 cp), (16, .int .i64 2), (17, .int .i64 1), (18, .bool true), (19, .int .i64 1), (20, .pointer (some ⟨sh, 2, none⟩)), (21, .agg #[.string (⟨#[98]⟩), .int .i64 1]), (6, .pointer (some ⟨b42, 0, none⟩)), (5, .int .i64 1), (22, .slice (some ⟨vb, 0, none⟩) 2 cpv), (23, .int .i64 1), (24, .pointer (some ⟨vb, 4, none⟩)), (25, .pointer (some ⟨vb, 4, none⟩)), (26, .int .i64 1), (27, .pointer (some ⟨b42, 1, none⟩)), (28, .int .i64 1), (29, .bool false), (30, .bool false), (31, .slice (some ⟨vb, 0, none⟩) 2 cpv), (32, .int .i64 1), (33, .pointer (some ⟨vb, 4, none⟩)), (34, .agg #[.int .i64 1, .int .i64 y, .string ByteArray.empty, .float .f64 0]), (35, .bool true), (36, .bool false), (37, .bool false), (38, .int .i64 1)]) 2 [1, 4, 15, 16, 17, 18, 19, 20, 21, 6, 5, 22, 23, 24, 25, 26, 27, 28, 29, 30, 31, 32, 33, 34, 35, 36, 37, 38] (by kernel_rfl) ?_
  refine WL.nil ?_
  refine hK50 _ _ _ ?_
  refine CW.condF rfl ?_
  refine CW.skip ?_
  refine hK37 _ _ _ ?_
  refine CW.region ?_
  refine WL.to (E' := [(1, .slice (some ⟨vb, 0, none⟩) 2 cpv), (4, .int .i64 0), (15, .slice (some ⟨sh, 0, none⟩) 2 cp), (16, .int .i64 2), (17, .int .i64 2), (18, .bool true), (19, .int .i64 1), (20, .pointer (some ⟨sh, 2, none⟩)), (21, .agg #[.string (⟨#[98]⟩), .int .i64 1]), (6, .pointer (some ⟨b42, 0, none⟩)), (5, .int .i64 1), (22, .slice (some ⟨vb, 0, none⟩) 2 cpv), (23, .int .i64 1), (24, .pointer (some ⟨vb, 4, none⟩)), (25, .pointer (some ⟨vb, 4, none⟩)), (26, .int .i64 1), (27, .pointer (some ⟨b42, 1, none⟩)), (28, .int .i64 1), (29, .bool false), (30, .bool false), (31, .slice (some ⟨vb, 0, none⟩) 2 cpv), (32, .int .i64 1), (33, .pointer (some ⟨vb, 4, none⟩)), (34, .agg #[.int .i64 1, .int .i64 y, .string ByteArray.empty, .float .f64 0]), (35, .bool true), (36, .bool false), (37, .bool false), (38, .int .i64 2)]) 2 [1, 4, 15, 16, 17, 18, 19, 20, 21, 6, 5, 22, 23, 24, 25, 26, 27, 28, 29, 30, 31, 32, 33, 34, 35, 36, 37, 38] (by kernel_rfl) ?_
  refine WL.nil ?_
  refine hK34 _ _ ?_
  refine CL.round fun K59 hK59 => ?_
  refine CW.seq fun K60 hK60 => ?_
  refine CW.region ?_
  refine WL.to (E' := [(1, .slice (some ⟨vb, 0, none⟩) 2 cpv), (4, .int .i64 0), (15, .slice (some ⟨sh, 0, none⟩) 2 cp), (16, .int .i64 2), (17, .int .i64 2), (18, .bool false), (19, .int .i64 1), (20, .pointer (some ⟨sh, 2, none⟩)), (21, .agg #[.string (⟨#[98]⟩), .int .i64 1]), (6, .pointer (some ⟨b42, 0, none⟩)), (5, .int .i64 1), (22, .slice (some ⟨vb, 0, none⟩) 2 cpv), (23, .int .i64 1), (24, .pointer (some ⟨vb, 4, none⟩)), (25, .pointer (some ⟨vb, 4, none⟩)), (26, .int .i64 1), (27, .pointer (some ⟨b42, 1, none⟩)), (28, .int .i64 1), (29, .bool false), (30, .bool false), (31, .slice (some ⟨vb, 0, none⟩) 2 cpv), (32, .int .i64 1), (33, .pointer (some ⟨vb, 4, none⟩)), (34, .agg #[.int .i64 1, .int .i64 y, .string ByteArray.empty, .float .f64 0]), (35, .bool true), (36, .bool false), (37, .bool false), (38, .int .i64 2)]) 1 [1, 4, 15, 16, 17, 18, 19, 20, 21, 6, 5, 22, 23, 24, 25, 26, 27, 28, 29, 30, 31, 32, 33, 34, 35, 36, 37, 38] (by kernel_rfl) ?_
  refine WL.nil ?_
  refine hK60 _ _ _ ?_
  refine CW.seq fun K61 hK61 => ?_
  refine CW.condF rfl ?_
  refine CW.exit ?_
  refine hK8 _ _ _ ?_
  refine CW.seq fun K62 hK62 => ?_
  refine CW.region ?_
  refine WL.to (E' := [(4, .int .i64 0)]) 1 [4] (by kernel_rfl) ?_
  refine WL.nil ?_
  refine hK62 _ _ _ ?_
  refine CW.ret fun a ha => ?_
  try simp (decide := true) only [Exit.inBlock, Exit.then, ↓reduceIte]
  exact fin ha.defers (res_tmp rfl ha rfl _) ⟨rfl, (((((((((u4.trans u19).trans u23).trans u27).trans u32).trans u44).trans u48).trans u52).trans u57).sub (by intro k hk hl; simp only [Value.ownBlock, Option.toList, List.mem_append, List.mem_cons, List.not_mem_nil, or_false, false_or] at hk; have := g20; have := g45; have := u4.size; have := u19.size; have := u23.size; have := u27.size; have := u32.size; have := u44.size; have := u48.size; have := u52.size; have := u57.size; omega))⟩
end Go.K

namespace Go.K
open Go.Proofs
set_option maxRecDepth 8000
set_option maxHeartbeats 1000000
set_option linter.unusedSimpArgs false
set_option linter.unusedVariables false
theorem copy_nil {w : World} :
    Ret Tryz.prog 125 #[.slice none 0 0] w fun v w' => v = .slice none 0 0 ∧ w' = w := by
  refine enterL (args := [.slice none 0 0]) Tryz.func125 rfl rfl rfl ?_
  refine CW.seq fun K1 hK1 => ?_
  refine CW.region ?_
  refine WL.to (E' := [(0, .slice none 0 0), (2, .slice none 0 0)]) 1 [0, 2] (by kernel_rfl) ?_
  refine WL.nil ?_
  refine hK1 _ _ _ ?_
  refine CW.seq fun K2 hK2 => ?_
  refine CW.region ?_
  refine WL.to (E' := [(2, .slice none 0 0), (3, .slice none 0 0)]) 1 [2, 3] (by kernel_rfl) ?_
  refine WL.callQ (v := .slice none 0 0) rfl rfl rfl rfl ent170 rfl (cloneV_nil) ?_
  refine WL.to (E' := [(2, .slice none 0 0)]) 1 [2] (by kernel_rfl) ?_
  refine WL.nil ?_
  refine hK2 _ _ _ ?_
  refine CW.ret fun a ha => ?_
  try simp (decide := true) only [Exit.inBlock, Exit.then, ↓reduceIte]
  exact fin ha.defers (res_tmp rfl ha rfl _) ⟨rfl, rfl⟩

theorem copy_own {w : World} {ao : Option Addr} {k cp : Nat} {fs : List Value} (h : Own w (.slice ao k cp) 58 4 k fs) (h1 : fs.all Value.oneCell' = true) (hk : k ≤ 1000) :
    Ret Tryz.prog 125 #[.slice ao k cp] w fun v w' => ∃ ao cp', v = .slice ao k cp' ∧ Own w' (.slice ao k cp') 58 4 k fs ∧ Only [] w w' ∧ ∀ b, (Value.slice ao k cp').ownBlock = some b → w.heap.size ≤ b := by
  refine enterL (args := [.slice ao k cp]) Tryz.func125 rfl rfl rfl ?_
  refine CW.seq fun K1 hK1 => ?_
  refine CW.region ?_
  refine WL.to (E' := [(0, .slice ao k cp), (2, .slice none 0 0)]) 1 [0, 2] (by kernel_rfl) ?_
  refine WL.nil ?_
  refine hK1 _ _ _ ?_
  refine CW.seq fun K2 hK2 => ?_
  refine CW.region ?_
  refine WL.to (E' := [(2, .slice none 0 0), (3, .slice ao k cp)]) 1 [2, 3] (by kernel_rfl) ?_
  refine WL.call rfl rfl rfl rfl ent170 rfl (cloneV_own h h1 (by omega)) ?_
  rintro _ w8 ⟨ao3, cp4, rfl, h5, u6, f7⟩
  refine WL.to (E' := [(2, .slice ao3 k cp4)]) 1 [2] (by kernel_rfl) ?_
  refine WL.nil ?_
  refine hK2 _ _ _ ?_
  refine CW.ret fun a ha => ?_
  try simp (decide := true) only [Exit.inBlock, Exit.then, ↓reduceIte]
  exact fin ha.defers (res_tmp rfl ha rfl _) ⟨_, _, rfl, h5, (u6.sub (by simp)), fun b hb => by have := f7 b hb; omega⟩

theorem shape_of {w : World} {t sh S k cps : Nat} {h1 h2 : Value} {mx : Int} {fs rest : List Value} (ht : Blk w t [.slice (some ⟨sh, 0, none⟩) k cps, h1, h2, .pointer (some ⟨S, 0, none⟩), .int .i64 mx, .slice none 0 0, .slice none 0 0] 116) (hs : Blk w sh (fs ++ rest) 51) (hl : fs.length = k * 2) (h1f : fs.all Value.oneCell' = true) (hk : k ≤ 1000) :
    Ret Tryz.prog 70 #[.pointer (some ⟨t, 0, none⟩)] w fun v w' => ∃ ao cp', v = .slice ao k cp' ∧ Own w' (.slice ao k cp') 51 2 k fs ∧ Only [] w w' ∧ ∀ b, (Value.slice ao k cp').ownBlock = some b → w.heap.size ≤ b := by
  refine enterL (args := [.pointer (some ⟨t, 0, none⟩)]) Tryz.func70 rfl rfl rfl ?_
  refine CW.seq fun K1 hK1 => ?_
  refine CW.region ?_
  refine WL.to (E' := [(0, .pointer (some ⟨t, 0, none⟩)), (2, .slice none 0 0)]) 1 [0, 2] (by kernel_rfl) ?_
  refine WL.nil ?_
  refine hK1 _ _ _ ?_
  refine CW.seq fun K2 hK2 => ?_
  refine CW.region ?_
  refine WL.to (E' := [(2, .slice none 0 0), (5, .pointer (some ⟨t, 0, none⟩))]) 3 [2, 5] (by kernel_rfl) ?_
  refine WL.load1 rfl agg29 rfl rfl ht rfl ?_
  refine WL.call rfl rfl rfl rfl ent58 rfl (cloneF hs hl h1f (by omega)) ?_
  rintro _ w8 ⟨ao3, cp4, rfl, h5, u6, f7⟩
  refine WL.to (E' := [(2, .slice ao3 k cp4)]) 1 [2] (by kernel_rfl) ?_
  refine WL.nil ?_
  refine hK2 _ _ _ ?_
  refine CW.ret fun a ha => ?_
  try simp (decide := true) only [Exit.inBlock, Exit.then, ↓reduceIte]
  exact fin ha.defers (res_tmp rfl ha rfl _) ⟨_, _, rfl, h5, (u6.sub (by simp)), fun b hb => by have := f7 b hb; omega⟩

theorem noindexes {w : World} {t sh S k cps : Nat} {h1 h2 : Value} {mx : Int} (ht : Blk w t [.slice (some ⟨sh, 0, none⟩) k cps, h1, h2, .pointer (some ⟨S, 0, none⟩), .int .i64 mx, .slice none 0 0, .slice none 0 0] 116) :
    Ret Tryz.prog 106 #[.pointer (some ⟨t, 0, none⟩)] w fun v w' => v = .slice none 0 0 ∧ w' = w := by
  refine enterL (args := [.pointer (some ⟨t, 0, none⟩)]) Tryz.func106 rfl rfl rfl ?_
  refine CW.seq fun K1 hK1 => ?_
  refine CW.region ?_
  refine WL.to (E' := [(0, .pointer (some ⟨t, 0, none⟩)), (2, .slice none 0 0)]) 1 [0, 2] (by kernel_rfl) ?_
  refine WL.nil ?_
  refine hK1 _ _ _ ?_
  refine CW.seq fun K2 hK2 => ?_
  refine CW.region ?_
  refine WL.to (E' := [(2, .slice none 0 0), (5, .pointer (some ⟨t, 5, none⟩))]) 3 [2, 5] (by kernel_rfl) ?_
  refine WL.load1 rfl agg114 rfl rfl ht rfl ?_
  refine WL.callQ (v := .slice none 0 0) rfl rfl rfl rfl ent137 rfl (cloneX_nil) ?_
  refine WL.to (E' := [(2, .slice none 0 0)]) 1 [2] (by kernel_rfl) ?_
  refine WL.nil ?_
  refine hK2 _ _ _ ?_
  refine CW.ret fun a ha => ?_
  try simp (decide := true) only [Exit.inBlock, Exit.then, ↓reduceIte]
  exact fin ha.defers (res_tmp rfl ha rfl _) ⟨rfl, rfl⟩

theorem checked_of {w : World} {t sh S k cps : Nat} {h1 h2 : Value} {mx : Int} {v1 : Value} {id : Int} (ht : Blk w t [.slice (some ⟨sh, 0, none⟩) k cps, h1, h2, .pointer (some ⟨S, 0, none⟩), .int .i64 mx, .slice none 0 0, .slice none 0 0] 116) :
    Ret Tryz.prog 73 #[.pointer (some ⟨t, 0, none⟩), v1, .int .i64 id] w fun v w' => v = .tuple #[.slice none 0 0, .nilIface] ∧ w' = w := by
  refine enterL (args := [.pointer (some ⟨t, 0, none⟩), v1, .int .i64 id]) Tryz.func73 rfl rfl rfl ?_
  refine CW.seq fun K1 hK1 => ?_
  refine CW.region ?_
  refine WL.to (E' := [(0, .pointer (some ⟨t, 0, none⟩)), (1, v1), (2, .int .i64 id), (6, .slice none 0 0), (7, .nilIface)]) 2 [0, 1, 2, 6, 7] (by kernel_rfl) ?_
  refine WL.nil ?_
  refine hK1 _ _ _ ?_
  refine CW.seq fun K2 hK2 => ?_
  refine CW.region ?_
  refine WL.to (E' := [(0, .pointer (some ⟨t, 0, none⟩)), (1, v1), (2, .int .i64 id), (6, .slice none 0 0), (7, .nilIface), (8, .slice none 0 0)]) 1 [0, 1, 2, 6, 7, 8] (by kernel_rfl) ?_
  refine WL.nil ?_
  refine hK2 _ _ _ ?_
  refine CW.seq fun K3 hK3 => ?_
  refine CW.seq fun K4 hK4 => ?_
  refine CW.region ?_
  refine WL.to (E' := [(1, v1), (2, .int .i64 id), (6, .slice none 0 0), (7, .nilIface), (8, .slice none 0 0), (13, .pointer (some ⟨t, 0, none⟩))]) 1 [1, 2, 6, 7, 8, 13] (by kernel_rfl) ?_
  refine WL.callQ (v := .slice none 0 0) rfl rfl rfl rfl ent106 rfl (noindexes ht) ?_
  refine WL.to (E' := [(1, v1), (2, .int .i64 id), (6, .slice none 0 0), (7, .nilIface), (8, .slice none 0 0), (14, .slice none 0 0), (15, .int .i64 0), (16, .int .i64 0)]) 2 [1, 2, 6, 7, 8, 14, 15, 16] (by kernel_rfl) ?_
  refine WL.nil ?_
  refine hK4 _ _ _ ?_
  refine CW.block ?_
  refine CW.round1 fun K5 hK5 => ?_
  refine CW.seq fun K6 hK6 => ?_
  refine CW.region ?_
  refine WL.to (E' := [(1, v1), (2, .int .i64 id), (6, .slice none 0 0), (7, .nilIface), (8, .slice none 0 0), (14, .slice none 0 0), (15, .int .i64 0), (16, .int .i64 0), (17, .bool false)]) 1 [1, 2, 6, 7, 8, 14, 15, 16, 17] (by kernel_rfl) ?_
  refine WL.nil ?_
  refine hK6 _ _ _ ?_
  refine CW.seq fun K7 hK7 => ?_
  refine CW.condF rfl ?_
  refine CW.exit ?_
  refine hK3 _ _ _ ?_
  refine CW.seq fun K8 hK8 => ?_
  refine CW.region ?_
  refine WL.to (E' := [(6, .slice none 0 0), (7, .nilIface)]) 3 [6, 7] (by kernel_rfl) ?_
  refine WL.nil ?_
  refine hK8 _ _ _ ?_
  refine CW.ret fun a ha => ?_
  try simp (decide := true) only [Exit.inBlock, Exit.then, ↓reduceIte]
  exact fin ha.defers (res_tmp2 rfl ha rfl rfl _) ⟨rfl, rfl⟩

theorem applied_of {w : World} {t sh S k cps : Nat} {h1 h2 : Value} {mx : Int} {v1 v2 : Value} (ht : Blk w t [.slice (some ⟨sh, 0, none⟩) k cps, h1, h2, .pointer (some ⟨S, 0, none⟩), .int .i64 mx, .slice none 0 0, .slice none 0 0] 116) :
    Ret Tryz.prog 75 #[.pointer (some ⟨t, 0, none⟩), v1, v2] w fun v w' => v = .nilIface ∧ w' = w := by
  refine enterL (args := [.pointer (some ⟨t, 0, none⟩), v1, v2]) Tryz.func75 rfl rfl rfl ?_
  refine CW.seq fun K1 hK1 => ?_
  refine CW.region ?_
  refine WL.to (E' := [(0, .pointer (some ⟨t, 0, none⟩)), (1, v1), (2, v2), (6, .nilIface)]) 1 [0, 1, 2, 6] (by kernel_rfl) ?_
  refine WL.nil ?_
  refine hK1 _ _ _ ?_
  refine CW.seq fun K2 hK2 => ?_
  refine CW.seq fun K3 hK3 => ?_
  refine CW.region ?_
  refine WL.to (E' := [(1, v1), (2, v2), (6, .nilIface), (10, .pointer (some ⟨t, 0, none⟩))]) 1 [1, 2, 6, 10] (by kernel_rfl) ?_
  refine WL.callQ (v := .slice none 0 0) rfl rfl rfl rfl ent106 rfl (noindexes ht) ?_
  refine WL.to (E' := [(1, v1), (2, v2), (6, .nilIface), (11, .slice none 0 0), (12, .int .i64 0), (13, .int .i64 0)]) 2 [1, 2, 6, 11, 12, 13] (by kernel_rfl) ?_
  refine WL.nil ?_
  refine hK3 _ _ _ ?_
  refine CW.block ?_
  refine CW.round1 fun K4 hK4 => ?_
  refine CW.seq fun K5 hK5 => ?_
  refine CW.region ?_
  refine WL.to (E' := [(1, v1), (2, v2), (6, .nilIface), (11, .slice none 0 0), (12, .int .i64 0), (13, .int .i64 0), (14, .bool false)]) 1 [1, 2, 6, 11, 12, 13, 14] (by kernel_rfl) ?_
  refine WL.nil ?_
  refine hK5 _ _ _ ?_
  refine CW.seq fun K6 hK6 => ?_
  refine CW.condF rfl ?_
  refine CW.exit ?_
  refine hK2 _ _ _ ?_
  refine CW.seq fun K7 hK7 => ?_
  refine CW.region ?_
  refine WL.to (E' := [(6, .nilIface)]) 1 [6] (by kernel_rfl) ?_
  refine WL.nil ?_
  refine hK7 _ _ _ ?_
  refine CW.ret fun a ha => ?_
  try simp (decide := true) only [Exit.inBlock, Exit.then, ↓reduceIte]
  exact fin ha.defers (res_tmp rfl ha rfl _) ⟨rfl, rfl⟩

theorem len_of {w : World} {S : Nat} {sat F n scp : Nat} {sao : Option Addr} {smx nx wr : Int} (hS : Blk w S [.slice sao n scp, .map (some sat), .pointer (some ⟨F, 0, none⟩), .int .i64 smx, .int .i64 nx, .int .i64 wr] 121) {idx : List (Int × Value)} (hA : KMap ki w sat idx) :
    Ret Tryz.prog 23 #[.pointer (some ⟨S, 0, none⟩)] w fun v w' => v = .int .i64 ((idx.length : Nat) : Int) ∧ w' = w := by
  refine enterL (args := [.pointer (some ⟨S, 0, none⟩)]) Tryz.func23 rfl rfl rfl ?_
  refine CW.seq fun K1 hK1 => ?_
  refine CW.region ?_
  refine WL.to (E' := [(0, .pointer (some ⟨S, 0, none⟩)), (2, .int .i64 0)]) 1 [0, 2] (by kernel_rfl) ?_
  refine WL.nil ?_
  refine hK1 _ _ _ ?_
  refine CW.seq fun K2 hK2 => ?_
  refine CW.region ?_
  refine WL.to (E' := [(2, .int .i64 0), (5, .pointer (some ⟨S, 1, none⟩))]) 3 [2, 5] (by kernel_rfl) ?_
  refine WL.load1 rfl agg118 rfl rfl hS rfl ?_
  refine WL.lenMap ki rfl rfl Tryz.underlying118 rfl hA ?_
  refine WL.to (E' := [(2, .int .i64 ((idx.length : Nat) : Int))]) 1 [2] (by kernel_rfl) ?_
  refine WL.nil ?_
  refine hK2 _ _ _ ?_
  refine CW.ret fun a ha => ?_
  try simp (decide := true) only [Exit.inBlock, Exit.then, ↓reduceIte]
  exact fin ha.defers (res_tmp rfl ha rfl _) ⟨rfl, rfl⟩

theorem full_of {w : World} {t sh S k cps : Nat} {h1 h2 : Value} {mx : Int} {sat F n scp : Nat} {sao : Option Addr} {smx nx wr : Int} (ht : Blk w t [.slice (some ⟨sh, 0, none⟩) k cps, h1, h2, .pointer (some ⟨S, 0, none⟩), .int .i64 mx, .slice none 0 0, .slice none 0 0] 116) (hS : Blk w S [.slice sao n scp, .map (some sat), .pointer (some ⟨F, 0, none⟩), .int .i64 smx, .int .i64 nx, .int .i64 wr] 121) {idx : List (Int × Value)} (hA : KMap ki w sat idx) :
    Ret Tryz.prog 71 #[.pointer (some ⟨t, 0, none⟩)] w fun v w' => v = .bool (decide (((idx.length : Nat) : Int) ≥ mx)) ∧ Only [] w w' := by
  refine enterL (args := [.pointer (some ⟨t, 0, none⟩)]) Tryz.func71 rfl rfl rfl ?_
  refine CW.seq fun K1 hK1 => ?_
  refine CW.region ?_
  refine WL.to (E' := [(0, .pointer (some ⟨t, 0, none⟩)), (2, .bool false)]) 1 [0, 2] (by kernel_rfl) ?_
  refine WL.nil ?_
  refine hK1 _ _ _ ?_
  refine CW.seq fun K2 hK2 => ?_
  refine CW.still (by kernel_rfl) (by kernel_rfl) ?_
  intro w3 e5 u4
  refine ST.to (E' := [(0, .pointer (some ⟨t, 0, none⟩)), (2, .bool false), (5, .pointer (some ⟨t, 3, none⟩))]) 3 [0, 2, 5] (by kernel_rfl) ?_
  have h6 := (ht.keep u4 nm0)
  refine ST.load1 rfl agg63 rfl rfl h6 rfl ?_
  have h7 := (hS.keep u4 nm0)
  have h8 := (hA.keep u4 nm0)
  refine ST.call (v := .int .i64 ((idx.length : Nat) : Int)) rfl rfl rfl rfl ent23 rfl (len_of h7 h8) ?_
  refine ST.to (E' := [(2, .bool false), (7, .int .i64 ((idx.length : Nat) : Int)), (10, .pointer (some ⟨t, 4, none⟩))]) 3 [2, 7, 10] (by kernel_rfl) ?_
  refine ST.load1 rfl agg3 rfl rfl h6 rfl ?_
  refine ST.to (E' := [(2, .bool (decide (((idx.length : Nat) : Int) ≥ mx)))]) 2 [2] (by kernel_rfl) ?_
  refine ST.nil ?_
  refine hK2 _ _ _ ?_
  refine CW.ret fun a ha => ?_
  try simp (decide := true) only [Exit.inBlock, Exit.then, ↓reduceIte]
  exact fin ha.defers (res_tmp rfl ha rfl _) ⟨rfl, (u4.sub (by simp))⟩
end Go.K

namespace Go.K
open Go.Proofs
set_option maxRecDepth 8000
set_option maxHeartbeats 1000000
set_option linter.unusedSimpArgs false
set_option linter.unusedVariables false
theorem write_nil {w : World} {S j : Nat} {sat F n scp : Nat} {sao : Option Addr} {smx nx wr : Int} {id ver : Int} (hS : Blk w S [.slice sao n scp, .map (some sat), .pointer (some ⟨F, 0, none⟩), .int .i64 smx, .int .i64 nx, .int .i64 wr] 121) {xs : List Value} (hO : Own w (.slice sao n scp) 214 3 n xs) (hj : j < n) (hw : -1000000 ≤ wr ∧ wr ≤ 1000000) :
    Ret Tryz.prog 114 #[.pointer (some ⟨S, 0, none⟩), .int .i64 ((j : Nat) : Int), .agg #[.int .i64 id, .int .i64 ver, .slice none 0 0]] w fun v w' => v = .tuple #[] ∧ Blk w' S [.slice sao n scp, .map (some sat), .pointer (some ⟨F, 0, none⟩), .int .i64 smx, .int .i64 nx, .int .i64 (wr + 1)] 121 ∧ Own w' (.slice sao n scp) 214 3 n (setAll xs (j * 3) [.int .i64 id, .int .i64 ver, .slice none 0 0]) ∧ Only (S :: (Value.slice sao n scp).ownBlock.toList) w w' := by
  refine enterL (args := [.pointer (some ⟨S, 0, none⟩), .int .i64 ((j : Nat) : Int), .agg #[.int .i64 id, .int .i64 ver, .slice none 0 0]]) Tryz.func114 rfl rfl rfl ?_
  refine CW.seq fun K1 hK1 => ?_
  refine CW.region ?_
  refine WL.box (cs := [.int .i64 id, .int .i64 ver, .slice none 0 0]) rfl rfl rfl rfl ?_
  intro w2 b3 h4 u5 g6
  refine WL.sub [(0, .pointer (some ⟨S, 0, none⟩)), (1, .int .i64 ((j : Nat) : Int)), (5, .pointer (some ⟨b3, 0, none⟩))] ⟨rfl, rfl, rfl, trivial⟩ ?_
  refine WL.nil ?_
  refine hK1 _ _ _ ?_
  refine CW.seq fun K7 hK7 => ?_
  refine CW.region ?_
  refine WL.to (E' := [(0, .pointer (some ⟨S, 0, none⟩)), (1, .int .i64 ((j : Nat) : Int)), (5, .pointer (some ⟨b3, 0, none⟩)), (6, .pointer (some ⟨b3, 2, none⟩))]) 1 [0, 1, 5, 6] (by kernel_rfl) ?_
  refine WL.load1 rfl agg38 rfl rfl h4 rfl ?_
  refine WL.callQ (v := .slice none 0 0) rfl rfl rfl rfl ent125 rfl (copy_nil) ?_
  refine WL.to (E' := [(0, .pointer (some ⟨S, 0, none⟩)), (1, .int .i64 ((j : Nat) : Int)), (5, .pointer (some ⟨b3, 0, none⟩)), (8, .slice none 0 0), (9, .pointer (some ⟨b3, 2, none⟩))]) 1 [0, 1, 5, 8, 9] (by kernel_rfl) ?_
  refine WL.store1 rfl siz38 rfl rfl rfl h4 rfl ?_
  intro w8 h9 u10 z11
  refine WL.sub [(0, .pointer (some ⟨S, 0, none⟩)), (1, .int .i64 ((j : Nat) : Int)), (5, .pointer (some ⟨b3, 0, none⟩))] ⟨rfl, rfl, rfl, trivial⟩ ?_
  refine WL.nil ?_
  refine hK7 _ _ _ ?_
  refine CW.seq fun K12 hK12 => ?_
  refine CW.tail 7 (by kernel_rfl) (by kernel_rfl) ?_
  intro w13 e15 u14
  refine ST.to (E' := [(0, .pointer (some ⟨S, 0, none⟩)), (1, .int .i64 ((j : Nat) : Int)), (5, .pointer (some ⟨b3, 0, none⟩)), (12, .pointer (some ⟨S, 0, none⟩))]) 3 [0, 1, 5, 12] (by kernel_rfl) ?_
  have h16 := (hS.keep u5 nm0)
  have h17 := ((h16.keep u10 (nmc (Blk.ne h16 h4 rfl) nm0)).keep u14 nm0)
  refine ST.load1 rfl agg117 rfl rfl h17 rfl ?_
  refine ST.to (E' := [(0, .pointer (some ⟨S, 0, none⟩)), (5, .pointer (some ⟨b3, 0, none⟩)), (13, .slice sao n scp), (14, .int .i64 ((j : Nat) : Int))]) 1 [0, 5, 13, 14] (by kernel_rfl) ?_
  have h18 := (h9.keep u14 nm0)
  refine ST.loadN rfl agg214 siz214 rfl rfl h18 rfl rfl ?_
  have h19 := (hO.keep' u5 dis0)
  have h20 := ((h19.keep' u10 (disc (fun hm => by have := hO.lt' hm; have := g6; omega) dis0)).keep' u14 dis0)
  obtain ⟨g28, rest21, e22, h23, q24, q25, q26, q27⟩ := h20.open2 (by omega)
  subst e22
  refine ST.index rfl rfl Tryz.underlying117 siz214 rfl rfl (by omega) (by omega) ?_
  refine ST.chg 16 (.pointer (some ⟨g28, j * 3, none⟩)) rfl (by simp) ?_
  refine ST.nil ?_
  change WL _ _ _ _ _ _ _ _
  refine WL.storeN rfl siz214 rfl rfl rfl rfl h23 (by rw [List.length_append, q27]; omega) ?_
  intro w29 h30 u31 z32
  replace h30 := Own.write h30 q24 q25 q26 q27 (by rw [q27]; show j * 3 + 3 ≤ _; omega)
  refine WL.sub [(0, .pointer (some ⟨S, 0, none⟩))] ⟨rfl, trivial⟩ ?_
  refine WL.nil ?_
  refine hK12 _ _ _ ?_
  refine CW.region ?_
  refine WL.to (E' := [(17, .pointer (some ⟨S, 0, none⟩)), (19, .pointer (some ⟨S, 5, none⟩))]) 3 [17, 19] (by kernel_rfl) ?_
  have h33 := (h17.keep u31 (nmc (Blk.ne h17 h23 rfl) nm0))
  refine WL.load1 rfl agg3 rfl rfl h33 rfl ?_
  refine WL.to (E' := [(17, .pointer (some ⟨S, 0, none⟩)), (21, .int .i64 (IntKind.i64.wrap (wr + 1)))]) 1 [17, 21] (by kernel_rfl) ?_
  refine WL.chg 21 (.int .i64 (wr + 1)) rfl (congrArg (Value.int .i64) (i64_in _ (by omega))) ?_
  refine WL.to (E' := [(21, .int .i64 (wr + 1)), (23, .pointer (some ⟨S, 5, none⟩))]) 2 [21, 23] (by kernel_rfl) ?_
  refine WL.store1 rfl siz3 rfl rfl rfl h33 rfl ?_
  intro w34 h35 u36 z37
  refine WL.sub [] trivial ?_
  refine WL.nil ?_
  have h38 := (h30.keep' u36 (disc (Own.ne h30 h33 rfl) dis0))
  intro a ha
  try simp (decide := true) only [Exit.inBlock, Exit.then, ↓reduceIte]
  exact finN ha.defers (res_none rfl _) ⟨rfl, h35, h38, (((((u5.trans u10).trans u14).trans u31).trans u36).sub (by intro k hk hl; simp only [Value.ownBlock, Option.toList, List.mem_append, List.mem_cons, List.not_mem_nil, or_false, false_or] at hk ⊢; have := u5.size; have := u10.size; have := u14.size; have := u31.size; have := u36.size; have := g6; omega))⟩

theorem write_own {w : World} {S j : Nat} {sat F n scp : Nat} {sao : Option Addr} {smx nx wr : Int} {id ver : Int} (hS : Blk w S [.slice sao n scp, .map (some sat), .pointer (some ⟨F, 0, none⟩), .int .i64 smx, .int .i64 nx, .int .i64 wr] 121) {xs : List Value} (hO : Own w (.slice sao n scp) 214 3 n xs) (hj : j < n) (hw : -1000000 ≤ wr ∧ wr ≤ 1000000) {vao : Option Addr} {k vcp : Nat} {fs : List Value} (h : Own w (.slice vao k vcp) 58 4 k fs) (h1 : fs.all Value.oneCell' = true) (hk : k ≤ 1000) :
    Ret Tryz.prog 114 #[.pointer (some ⟨S, 0, none⟩), .int .i64 ((j : Nat) : Int), .agg #[.int .i64 id, .int .i64 ver, .slice vao k vcp]] w fun v w' => ∃ ao cp, Own w' (.slice ao k cp) 58 4 k fs ∧ (∀ b, (Value.slice ao k cp).ownBlock = some b → w.heap.size ≤ b) ∧ v = .tuple #[] ∧ Blk w' S [.slice sao n scp, .map (some sat), .pointer (some ⟨F, 0, none⟩), .int .i64 smx, .int .i64 nx, .int .i64 (wr + 1)] 121 ∧ Own w' (.slice sao n scp) 214 3 n (setAll xs (j * 3) [.int .i64 id, .int .i64 ver, .slice ao k cp]) ∧ Only (S :: (Value.slice sao n scp).ownBlock.toList) w w' := by
  refine enterL (args := [.pointer (some ⟨S, 0, none⟩), .int .i64 ((j : Nat) : Int), .agg #[.int .i64 id, .int .i64 ver, .slice vao k vcp]]) Tryz.func114 rfl rfl rfl ?_
  refine CW.seq fun K1 hK1 => ?_
  refine CW.region ?_
  refine WL.box (cs := [.int .i64 id, .int .i64 ver, .slice vao k vcp]) rfl rfl rfl rfl ?_
  intro w2 b3 h4 u5 g6
  refine WL.sub [(0, .pointer (some ⟨S, 0, none⟩)), (1, .int .i64 ((j : Nat) : Int)), (5, .pointer (some ⟨b3, 0, none⟩))] ⟨rfl, rfl, rfl, trivial⟩ ?_
  refine WL.nil ?_
  refine hK1 _ _ _ ?_
  refine CW.seq fun K7 hK7 => ?_
  refine CW.region ?_
  refine WL.to (E' := [(0, .pointer (some ⟨S, 0, none⟩)), (1, .int .i64 ((j : Nat) : Int)), (5, .pointer (some ⟨b3, 0, none⟩)), (6, .pointer (some ⟨b3, 2, none⟩))]) 1 [0, 1, 5, 6] (by kernel_rfl) ?_
  refine WL.load1 rfl agg38 rfl rfl h4 rfl ?_
  have h8 := (h.keep' u5 dis0)
  refine WL.call rfl rfl rfl rfl ent125 rfl (copy_own h8 h1 (by omega)) ?_
  rintro _ w14 ⟨ao9, cp10, rfl, h11, u12, f13⟩
  refine WL.to (E' := [(0, .pointer (some ⟨S, 0, none⟩)), (1, .int .i64 ((j : Nat) : Int)), (5, .pointer (some ⟨b3, 0, none⟩)), (8, .slice ao9 k cp10), (9, .pointer (some ⟨b3, 2, none⟩))]) 1 [0, 1, 5, 8, 9] (by kernel_rfl) ?_
  have h15 := (h4.keep u12 nm0)
  refine WL.store1 rfl siz38 rfl rfl rfl h15 rfl ?_
  intro w16 h17 u18 z19
  refine WL.sub [(0, .pointer (some ⟨S, 0, none⟩)), (1, .int .i64 ((j : Nat) : Int)), (5, .pointer (some ⟨b3, 0, none⟩))] ⟨rfl, rfl, rfl, trivial⟩ ?_
  refine WL.nil ?_
  refine hK7 _ _ _ ?_
  refine CW.seq fun K20 hK20 => ?_
  refine CW.tail 7 (by kernel_rfl) (by kernel_rfl) ?_
  intro w21 e23 u22
  refine ST.to (E' := [(0, .pointer (some ⟨S, 0, none⟩)), (1, .int .i64 ((j : Nat) : Int)), (5, .pointer (some ⟨b3, 0, none⟩)), (12, .pointer (some ⟨S, 0, none⟩))]) 3 [0, 1, 5, 12] (by kernel_rfl) ?_
  have h24 := ((hS.keep u5 nm0).keep u12 nm0)
  have h25 := ((h24.keep u18 (nmc (Blk.ne h24 h15 rfl) nm0)).keep u22 nm0)
  refine ST.load1 rfl agg117 rfl rfl h25 rfl ?_
  refine ST.to (E' := [(0, .pointer (some ⟨S, 0, none⟩)), (5, .pointer (some ⟨b3, 0, none⟩)), (13, .slice sao n scp), (14, .int .i64 ((j : Nat) : Int))]) 1 [0, 5, 13, 14] (by kernel_rfl) ?_
  have h26 := (h17.keep u22 nm0)
  refine ST.loadN rfl agg214 siz214 rfl rfl h26 rfl rfl ?_
  have h27 := ((hO.keep' u5 dis0).keep' u12 dis0)
  have h28 := ((h27.keep' u18 (disc (fun hm => by have := hO.lt' hm; have := g6; omega) dis0)).keep' u22 dis0)
  obtain ⟨g36, rest29, e30, h31, q32, q33, q34, q35⟩ := h28.open2 (by omega)
  subst e30
  refine ST.index rfl rfl Tryz.underlying117 siz214 rfl rfl (by omega) (by omega) ?_
  refine ST.chg 16 (.pointer (some ⟨g36, j * 3, none⟩)) rfl (by simp) ?_
  refine ST.nil ?_
  change WL _ _ _ _ _ _ _ _
  refine WL.storeN rfl siz214 rfl rfl rfl rfl h31 (by rw [List.length_append, q35]; omega) ?_
  intro w37 h38 u39 z40
  replace h38 := Own.write h38 q32 q33 q34 q35 (by rw [q35]; show j * 3 + 3 ≤ _; omega)
  refine WL.sub [(0, .pointer (some ⟨S, 0, none⟩))] ⟨rfl, trivial⟩ ?_
  refine WL.nil ?_
  refine hK20 _ _ _ ?_
  refine CW.region ?_
  refine WL.to (E' := [(17, .pointer (some ⟨S, 0, none⟩)), (19, .pointer (some ⟨S, 5, none⟩))]) 3 [17, 19] (by kernel_rfl) ?_
  have h41 := (h25.keep u39 (nmc (Blk.ne h25 h31 rfl) nm0))
  refine WL.load1 rfl agg3 rfl rfl h41 rfl ?_
  refine WL.to (E' := [(17, .pointer (some ⟨S, 0, none⟩)), (21, .int .i64 (IntKind.i64.wrap (wr + 1)))]) 1 [17, 21] (by kernel_rfl) ?_
  refine WL.chg 21 (.int .i64 (wr + 1)) rfl (congrArg (Value.int .i64) (i64_in _ (by omega))) ?_
  refine WL.to (E' := [(21, .int .i64 (wr + 1)), (23, .pointer (some ⟨S, 5, none⟩))]) 2 [21, 23] (by kernel_rfl) ?_
  refine WL.store1 rfl siz3 rfl rfl rfl h41 rfl ?_
  intro w42 h43 u44 z45
  refine WL.sub [] trivial ?_
  refine WL.nil ?_
  have h46 := ((h11.keep' u18 (disc (Own.ne h11 h15 rfl) dis0)).keep' u22 dis0)
  have h47 := (h46.keep' u39 (disc (Own.ne h46 h31 rfl) dis0))
  have h48 := (h47.keep' u44 (disc (Own.ne h47 h41 rfl) dis0))
  have h49 := (h38.keep' u44 (disc (Own.ne h38 h41 rfl) dis0))
  intro a ha
  try simp (decide := true) only [Exit.inBlock, Exit.then, ↓reduceIte]
  exact finN ha.defers (res_none rfl _) ⟨_, _, h48, (fun b hb => by have := f13 b hb; have := u5.size; omega), rfl, h43, h49, ((((((u5.trans u12).trans u18).trans u22).trans u39).trans u44).sub (by intro k hk hl; simp only [Value.ownBlock, Option.toList, List.mem_append, List.mem_cons, List.not_mem_nil, or_false, false_or] at hk ⊢; have := u5.size; have := u12.size; have := u18.size; have := u22.size; have := u39.size; have := u44.size; have := g6; omega))⟩

theorem pilelen_of {w : World} {F fk fc : Nat} {fa : Option Addr} {fb : Value} (hF : Blk w F [.slice fa fk fc, fb] 246) :
    Ret Tryz.prog 269 #[.pointer (some ⟨F, 0, none⟩)] w fun v w' => v = .int .i64 ((fk : Nat) : Int) ∧ w' = w := by
  refine enterL (args := [.pointer (some ⟨F, 0, none⟩)]) Tryz.func269 rfl rfl rfl ?_
  refine CW.seq fun K1 hK1 => ?_
  refine CW.region ?_
  refine WL.to (E' := [(0, .pointer (some ⟨F, 0, none⟩)), (2, .int .i64 0)]) 1 [0, 2] (by kernel_rfl) ?_
  refine WL.nil ?_
  refine hK1 _ _ _ ?_
  refine CW.seq fun K2 hK2 => ?_
  refine CW.region ?_
  refine WL.to (E' := [(2, .int .i64 0), (5, .pointer (some ⟨F, 0, none⟩))]) 3 [2, 5] (by kernel_rfl) ?_
  refine WL.load1 rfl agg49 rfl rfl hF rfl ?_
  refine WL.to (E' := [(2, .int .i64 ((fk : Nat) : Int))]) 2 [2] (by kernel_rfl) ?_
  refine WL.nil ?_
  refine hK2 _ _ _ ?_
  refine CW.ret fun a ha => ?_
  try simp (decide := true) only [Exit.inBlock, Exit.then, ↓reduceIte]
  exact fin ha.defers (res_tmp rfl ha rfl _) ⟨rfl, rfl⟩

theorem freelen_of {w : World} {F fk fc : Nat} {fa : Option Addr} {fb : Value} (hF : Blk w F [.slice fa fk fc, fb] 246) :
    Ret Tryz.prog 214 #[.pointer (some ⟨F, 0, none⟩)] w fun v w' => v = .int .i64 ((fk : Nat) : Int) ∧ w' = w := by
  refine enterL (args := [.pointer (some ⟨F, 0, none⟩)]) Tryz.func214 rfl rfl rfl ?_
  refine CW.seq fun K1 hK1 => ?_
  refine CW.region ?_
  refine WL.to (E' := [(0, .pointer (some ⟨F, 0, none⟩)), (2, .int .i64 0)]) 1 [0, 2] (by kernel_rfl) ?_
  refine WL.nil ?_
  refine hK1 _ _ _ ?_
  refine CW.seq fun K2 hK2 => ?_
  refine CW.region ?_
  refine WL.to (E' := [(2, .int .i64 0), (5, .pointer (some ⟨F, 0, none⟩))]) 3 [2, 5] (by kernel_rfl) ?_
  refine WL.callQ (v := .int .i64 ((fk : Nat) : Int)) rfl rfl rfl rfl ent269 rfl (pilelen_of hF) ?_
  refine WL.to (E' := [(2, .int .i64 ((fk : Nat) : Int))]) 1 [2] (by kernel_rfl) ?_
  refine WL.nil ?_
  refine hK2 _ _ _ ?_
  refine CW.ret fun a ha => ?_
  try simp (decide := true) only [Exit.inBlock, Exit.then, ↓reduceIte]
  exact fin ha.defers (res_tmp rfl ha rfl _) ⟨rfl, rfl⟩

theorem take_none {w : World} {F : Nat} {fa : Option Addr} {fc : Nat} {fb : Value} (hF : Blk w F [.slice fa 0 fc, fb] 246) :
    Ret Tryz.prog 157 #[.pointer (some ⟨F, 0, none⟩)] w fun v w' => v = .tuple #[.int .i64 0, .bool false] ∧ w' = w := by
  refine enterL (args := [.pointer (some ⟨F, 0, none⟩)]) Tryz.func157 rfl rfl rfl ?_
  refine CW.seq fun K1 hK1 => ?_
  refine CW.region ?_
  refine WL.to (E' := [(0, .pointer (some ⟨F, 0, none⟩)), (2, .int .i64 0), (3, .bool false)]) 2 [0, 2, 3] (by kernel_rfl) ?_
  refine WL.nil ?_
  refine hK1 _ _ _ ?_
  refine CW.seq fun K2 hK2 => ?_
  refine CW.seq fun K3 hK3 => ?_
  refine CW.region ?_
  refine WL.to (E' := [(0, .pointer (some ⟨F, 0, none⟩)), (2, .int .i64 0), (3, .bool false), (4, .pointer (some ⟨F, 0, none⟩))]) 1 [0, 2, 3, 4] (by kernel_rfl) ?_
  refine WL.callQ (v := .int .i64 0) rfl rfl rfl rfl ent214 rfl (freelen_of hF) ?_
  refine WL.to (E' := [(0, .pointer (some ⟨F, 0, none⟩)), (2, .int .i64 0), (3, .bool false), (6, .bool true)]) 1 [0, 2, 3, 6] (by kernel_rfl) ?_
  refine WL.nil ?_
  refine hK3 _ _ _ ?_
  refine CW.condT rfl ?_
  refine CW.seq fun K4 hK4 => ?_
  refine CW.region ?_
  refine WL.to (E' := [(0, .pointer (some ⟨F, 0, none⟩)), (2, .int .i64 0), (3, .bool false)]) 2 [0, 2, 3] (by kernel_rfl) ?_
  refine WL.nil ?_
  refine hK4 _ _ _ ?_
  refine CW.ret fun a ha => ?_
  try simp (decide := true) only [Exit.inBlock, Exit.then, ↓reduceIte]
  exact fin ha.defers (res_tmp2 rfl ha rfl rfl _) ⟨rfl, rfl⟩

theorem adds_of {w : World} {S : Nat} {sat F n scp : Nat} {sao : Option Addr} {smx nx wr : Int} {id ver : Int} (hS : Blk w S [.slice sao n scp, .map (some sat), .pointer (some ⟨F, 0, none⟩), .int .i64 smx, .int .i64 nx, .int .i64 wr] 121) {idx : List (Int × Value)} (hA : KMap ki w sat idx) {xs : List Value} (hO : Own w (.slice sao n scp) 214 3 n xs) {fa : Option Addr} {fc : Nat} {fb : Value} (hF : Blk w F [.slice fa 0 fc, fb] 246) {vao : Option Addr} {k vcp : Nat} {fs : List Value} (h : Own w (.slice vao k vcp) 58 4 k fs) (h1 : fs.all Value.oneCell' = true) (hk : k ≤ 1000) (hnew : look idx id = none) (hroom : ((idx.length : Nat) : Int) < smx) (hn : n ≤ 100000) (hw : -1000000 ≤ wr ∧ wr ≤ 1000000) :
    Ret Tryz.prog 113 #[.pointer (some ⟨S, 0, none⟩), .agg #[.int .i64 id, .int .i64 ver, .slice vao k vcp]] w fun v w' => ∃ sao' scp' ao cp, v = .int .i64 0 ∧ Blk w' S [.slice sao' (n + 1) scp', .map (some sat), .pointer (some ⟨F, 0, none⟩), .int .i64 smx, .int .i64 nx, .int .i64 (wr + 1)] 121 ∧ KMap ki w' sat (idx ++ [(id, .int .i64 ((n : Nat) : Int))]) ∧ Own w' (.slice sao' (n + 1) scp') 214 3 (n + 1) (setAll (xs ++ [.int .i64 0, .int .i64 0, .slice none 0 0]) (n * 3) [.int .i64 id, .int .i64 ver, .slice ao k cp]) ∧ Own w' (.slice ao k cp) 58 4 k fs ∧ (∀ b, (Value.slice ao k cp).ownBlock = some b → w.heap.size ≤ b) ∧ (∀ b, (Value.slice sao' (n + 1) scp').ownBlock = some b → (Value.slice sao n scp).ownBlock = some b ∨ w.heap.size ≤ b) ∧ Only (S :: sat :: (Value.slice sao n scp).ownBlock.toList) w w' := by
  refine enterL (args := [.pointer (some ⟨S, 0, none⟩), .agg #[.int .i64 id, .int .i64 ver, .slice vao k vcp]]) Tryz.func113 rfl rfl rfl ?_
  refine CW.seq fun K1 hK1 => ?_
  refine CW.region ?_
  refine WL.box (cs := [.int .i64 id, .int .i64 ver, .slice vao k vcp]) rfl rfl rfl rfl ?_
  intro w2 b3 h4 u5 g6
  refine WL.to (E' := [(0, .pointer (some ⟨S, 0, none⟩)), (3, .pointer (some ⟨b3, 0, none⟩)), (4, .int .i64 0)]) 1 [0, 3, 4] (by kernel_rfl) ?_
  refine WL.nil ?_
  refine hK1 _ _ _ ?_
  refine CW.seq fun K7 hK7 => ?_
  refine CW.seq fun K8 hK8 => ?_
  refine CW.still (by kernel_rfl) (by kernel_rfl) ?_
  intro w9 e11 u10
  refine ST.to (E' := [(0, .pointer (some ⟨S, 0, none⟩)), (3, .pointer (some ⟨b3, 0, none⟩)), (4, .int .i64 0), (7, .pointer (some ⟨S, 0, none⟩))]) 1 [0, 3, 4, 7] (by kernel_rfl) ?_
  have h12 := ((hS.keep u5 nm0).keep u10 nm0)
  have h13 := ((hA.keep u5 nm0).keep u10 nm0)
  refine ST.call (v := .int .i64 ((idx.length : Nat) : Int)) rfl rfl rfl rfl ent23 rfl (len_of h12 h13) ?_
  refine ST.to (E' := [(0, .pointer (some ⟨S, 0, none⟩)), (3, .pointer (some ⟨b3, 0, none⟩)), (4, .int .i64 0), (8, .int .i64 ((idx.length : Nat) : Int)), (11, .pointer (some ⟨S, 3, none⟩))]) 3 [0, 3, 4, 8, 11] (by kernel_rfl) ?_
  refine ST.load1 rfl agg3 rfl rfl h12 rfl ?_
  refine ST.to (E' := [(0, .pointer (some ⟨S, 0, none⟩)), (3, .pointer (some ⟨b3, 0, none⟩)), (4, .int .i64 0), (13, .bool (decide (((idx.length : Nat) : Int) ≥ smx)))]) 1 [0, 3, 4, 13] (by kernel_rfl) ?_
  refine ST.nil ?_
  refine hK8 _ _ _ ?_
  refine CW.no rfl (decide_eq_false (by omega)) ?_
  refine CW.skip ?_
  refine hK7 _ _ _ ?_
  refine CW.seq fun K14 hK14 => ?_
  refine CW.region ?_
  refine WL.to (E' := [(0, .pointer (some ⟨S, 0, none⟩)), (3, .pointer (some ⟨b3, 0, none⟩)), (4, .int .i64 0), (17, .pointer (some ⟨S, 2, none⟩))]) 3 [0, 3, 4, 17] (by kernel_rfl) ?_
  refine WL.load1 rfl agg119 rfl rfl h12 rfl ?_
  have h15 := ((hF.keep u5 nm0).keep u10 nm0)
  refine WL.callQ (v := .tuple #[.int .i64 0, .bool false]) rfl rfl rfl rfl ent157 rfl (take_none h15) ?_
  refine WL.to (E' := [(0, .pointer (some ⟨S, 0, none⟩)), (3, .pointer (some ⟨b3, 0, none⟩)), (4, .int .i64 0), (5, .int .i64 0), (6, .bool false)]) 5 [0, 3, 4, 5, 6] (by kernel_rfl) ?_
  refine WL.nil ?_
  refine hK14 _ _ _ ?_
  refine CW.seq fun K16 hK16 => ?_
  refine CW.seq fun K17 hK17 => ?_
  refine CW.region ?_
  refine WL.to (E' := [(0, .pointer (some ⟨S, 0, none⟩)), (3, .pointer (some ⟨b3, 0, none⟩)), (4, .int .i64 0), (5, .int .i64 0), (23, .bool true)]) 2 [0, 3, 4, 5, 23] (by kernel_rfl) ?_
  refine WL.nil ?_
  refine hK17 _ _ _ ?_
  refine CW.condT rfl ?_
  refine CW.seq fun K18 hK18 => ?_
  refine CW.region ?_
  refine WL.to (E' := [(0, .pointer (some ⟨S, 0, none⟩)), (3, .pointer (some ⟨b3, 0, none⟩)), (4, .int .i64 0), (5, .int .i64 0), (26, .pointer (some ⟨S, 0, none⟩))]) 3 [0, 3, 4, 5, 26] (by kernel_rfl) ?_
  refine WL.load1 rfl agg117 rfl rfl h12 rfl ?_
  refine WL.to (E' := [(0, .pointer (some ⟨S, 0, none⟩)), (3, .pointer (some ⟨b3, 0, none⟩)), (4, .int .i64 0), (5, .int .i64 ((n : Nat) : Int))]) 2 [0, 3, 4, 5] (by kernel_rfl) ?_
  refine WL.nil ?_
  refine hK18 _ _ _ ?_
  refine CW.region ?_
  refine WL.to (E' := [(0, .pointer (some ⟨S, 0, none⟩)), (3, .pointer (some ⟨b3, 0, none⟩)), (4, .int .i64 0), (5, .int .i64 ((n : Nat) : Int)), (29, .pointer (some ⟨S, 0, none⟩)), (32, .pointer (some ⟨S, 0, none⟩))]) 4 [0, 3, 4, 5, 29, 32] (by kernel_rfl) ?_
  refine WL.load1 rfl agg117 rfl rfl h12 rfl ?_
  refine WL.build (vs := []) (v := .agg #[.int .i64 0, .int .i64 0, .slice none 0 0]) rfl rfl rfl (by kernel_rfl) ?_
  refine WL.buildSlice (vs := [(0, .agg #[.int .i64 0, .int .i64 0, .slice none 0 0])]) (cs := [.int .i64 0, .int .i64 0, .slice none 0 0]) rfl rfl Tryz.underlying117 rfl (by kernel_rfl) ?_
  intro w19 b20 h21 u22 g23
  have h24 := (((hO.keep' u5 dis0).keep' u10 dis0).keep' u22 dis0)
  refine WL.appT (k := n) (xs := xs) rfl Tryz.underlying117 inf214 rfl rfl rfl rfl rfl h24 h21 rfl rfl rfl ⟨by omega, by omega⟩ ?_
  intro v29 w25 h26 u27 f28
  obtain ⟨ao30, cp31, rfl⟩ := h26.form
  refine WL.to (E' := [(0, .pointer (some ⟨S, 0, none⟩)), (3, .pointer (some ⟨b3, 0, none⟩)), (4, .int .i64 0), (5, .int .i64 ((n : Nat) : Int)), (36, .slice ao30 (n + 1) cp31), (38, .pointer (some ⟨S, 0, none⟩))]) 2 [0, 3, 4, 5, 36, 38] (by kernel_rfl) ?_
  have h32 := (h12.keep u22 nm0)
  have h33 := (h32.keep u27 (Own.ne h24 h32 rfl))
  refine WL.store1 rfl siz117 rfl rfl rfl h33 rfl ?_
  intro w34 h35 u36 z37
  refine WL.sub [(0, .pointer (some ⟨S, 0, none⟩)), (3, .pointer (some ⟨b3, 0, none⟩)), (4, .int .i64 0), (5, .int .i64 ((n : Nat) : Int))] ⟨rfl, rfl, rfl, rfl, trivial⟩ ?_
  refine WL.nil ?_
  refine hK16 _ _ _ ?_
  refine CW.seq fun K38 hK38 => ?_
  refine CW.tail 7 (by kernel_rfl) (by kernel_rfl) ?_
  intro w39 e41 u40
  refine ST.to (E' := [(0, .pointer (some ⟨S, 0, none⟩)), (3, .pointer (some ⟨b3, 0, none⟩)), (4, .int .i64 0), (5, .int .i64 ((n : Nat) : Int)), (41, .pointer (some ⟨S, 1, none⟩))]) 3 [0, 3, 4, 5, 41] (by kernel_rfl) ?_
  have h42 := (h35.keep u40 nm0)
  refine ST.load1 rfl agg118 rfl rfl h42 rfl ?_
  refine ST.to (E' := [(0, .pointer (some ⟨S, 0, none⟩)), (3, .pointer (some ⟨b3, 0, none⟩)), (4, .int .i64 0), (5, .int .i64 ((n : Nat) : Int)), (42, .map (some sat)), (43, .pointer (some ⟨b3, 0, none⟩))]) 1 [0, 3, 4, 5, 42, 43] (by kernel_rfl) ?_
  have h43 := ((h4.keep u10 nm0).keep u22 nm0)
  have h44 := (h43.keep u27 (fun hm => by have := hO.lt' hm; have := g6; omega))
  have h45 := ((h44.keep u36 (nmc (Blk.ne h44 h33 rfl) nm0)).keep u40 nm0)
  refine ST.load1 rfl agg2 rfl rfl h45 rfl ?_
  refine ST.to (E' := [(0, .pointer (some ⟨S, 0, none⟩)), (3, .pointer (some ⟨b3, 0, none⟩)), (4, .int .i64 0), (5, .int .i64 ((n : Nat) : Int)), (42, .map (some sat)), (44, .int .i64 id), (45, .int .i64 ((n : Nat) : Int))]) 1 [0, 3, 4, 5, 42, 44, 45] (by kernel_rfl) ?_
  refine ST.nil ?_
  change WL _ _ _ _ _ _ _ _
  have h46 := (h13.keep u22 nm0)
  have h47 := (h46.keep u27 (Own.neM h24 h46))
  have h48 := ((h47.keep u36 (nmc (Ne.symm (Blk.neK h33 h47)) nm0)).keep u40 nm0)
  refine WL.putNew (κ := ki) (a := id) rfl law_i Tryz.underlying118 Tryz.underlying2 rfl rfl rfl h48 (hnew) ?_
  intro w49 h50 u51 z52
  refine WL.sub [(0, .pointer (some ⟨S, 0, none⟩)), (3, .pointer (some ⟨b3, 0, none⟩)), (4, .int .i64 0), (5, .int .i64 ((n : Nat) : Int))] ⟨rfl, rfl, rfl, rfl, trivial⟩ ?_
  refine WL.nil ?_
  refine hK38 _ _ _ ?_
  refine CW.seq fun K53 hK53 => ?_
  refine CW.region ?_
  refine WL.to (E' := [(3, .pointer (some ⟨b3, 0, none⟩)), (4, .int .i64 0), (46, .pointer (some ⟨S, 0, none⟩)), (47, .int .i64 ((n : Nat) : Int))]) 2 [3, 4, 46, 47] (by kernel_rfl) ?_
  have h54 := (h45.keep u51 (nmc (Blk.neK h45 h48) nm0))
  refine WL.loadN rfl agg214 siz214 rfl rfl h54 rfl rfl ?_
  have h55 := (h42.keep u51 (nmc (Blk.neK h42 h48) nm0))
  have h56 := ((h26.keep' u36 (disc (Own.ne h26 h33 rfl) dis0)).keep' u40 dis0)
  have h57 := (h56.keep' u51 (disc (Own.neM h56 h48) dis0))
  have h62 := (((h.keep' u5 dis0).keep' u10 dis0).keep' u22 dis0)
  have h63 := (h62.keep' u27 (Own.neO h62 h24 rfl))
  have h64 := ((h63.keep' u36 (disc (Own.ne h63 h33 rfl) dis0)).keep' u40 dis0)
  have h65 := (h64.keep' u51 (disc (Own.neM h64 h48) dis0))
  refine WL.call rfl rfl rfl rfl ent114 rfl (write_own h55 h57 (by omega) (by omega) h65 h1 (by omega)) ?_
  rintro _ w58 ⟨ao66, cp67, h68, f69, rfl, h60, h61, u59⟩
  refine WL.sub [(4, .int .i64 0)] ⟨rfl, trivial⟩ ?_
  refine WL.nil ?_
  refine hK53 _ _ _ ?_
  refine CW.seq fun K70 hK70 => ?_
  refine CW.region ?_
  refine WL.to (E' := [(4, .int .i64 0)]) 1 [4] (by kernel_rfl) ?_
  refine WL.nil ?_
  refine hK70 _ _ _ ?_
  have h71 := (h50.keep u59 (nma (nmc (Ne.symm (Blk.neK h55 h50)) nm0) (Own.neM h57 h50)))
  refine CW.ret fun a ha => ?_
  try simp (decide := true) only [Exit.inBlock, Exit.then, ↓reduceIte]
  exact fin ha.defers (res_tmp rfl ha rfl _) ⟨_, _, _, _, rfl, h60, h71, h61, h68, (fun b hb => by have := f69 b hb; have := u5.size; have := u10.size; have := u22.size; have := u27.size; have := u36.size; have := u40.size; have := u51.size; omega), (fun b hb => (f28 b hb).imp_right (fun h => by have := u5.size; have := u10.size; have := u22.size; omega)), ((((((((u5.trans u10).trans u22).trans u27).trans u36).trans u40).trans u51).trans u59).sub (by intro k hk hl; simp only [Option.mem_toList, Option.mem_def, List.mem_append, List.mem_cons, List.not_mem_nil, or_false, false_or] at hk ⊢; have := u5.size; have := u10.size; have := u22.size; have := u27.size; have := u36.size; have := u40.size; have := u51.size; have := u59.size; have := f28; grind))⟩

theorem insert_of {w : World} {S : Nat} {sat F n scp : Nat} {sao : Option Addr} {smx nx wr : Int} (hS : Blk w S [.slice sao n scp, .map (some sat), .pointer (some ⟨F, 0, none⟩), .int .i64 smx, .int .i64 nx, .int .i64 wr] 121) {idx : List (Int × Value)} (hA : KMap ki w sat idx) {xs : List Value} (hO : Own w (.slice sao n scp) 214 3 n xs) {fa : Option Addr} {fc : Nat} {fb : Value} (hF : Blk w F [.slice fa 0 fc, fb] 246) {vao : Option Addr} {k vcp : Nat} {fs : List Value} (h : Own w (.slice vao k vcp) 58 4 k fs) (h1 : fs.all Value.oneCell' = true) (hk : k ≤ 1000) (hnew : look idx nx = none) (hroom : ((idx.length : Nat) : Int) < smx) (hn : n ≤ 100000) (hw : -1000000 ≤ wr ∧ wr ≤ 1000000) (hx : -1000000 ≤ nx ∧ nx ≤ 1000000) :
    Ret Tryz.prog 78 #[.pointer (some ⟨S, 0, none⟩), .slice vao k vcp] w fun v w' => ∃ sao' scp' ao cp, v = .tuple #[.int .i64 nx, .int .i64 0] ∧ Blk w' S [.slice sao' (n + 1) scp', .map (some sat), .pointer (some ⟨F, 0, none⟩), .int .i64 smx, .int .i64 (nx + 1), .int .i64 (wr + 1)] 121 ∧ KMap ki w' sat (idx ++ [(nx, .int .i64 ((n : Nat) : Int))]) ∧ Own w' (.slice sao' (n + 1) scp') 214 3 (n + 1) (setAll (xs ++ [.int .i64 0, .int .i64 0, .slice none 0 0]) (n * 3) [.int .i64 nx, .int .i64 1, .slice ao k cp]) ∧ Own w' (.slice ao k cp) 58 4 k fs ∧ (∀ b, (Value.slice ao k cp).ownBlock = some b → w.heap.size ≤ b) ∧ (∀ b, (Value.slice sao' (n + 1) scp').ownBlock = some b → (Value.slice sao n scp).ownBlock = some b ∨ w.heap.size ≤ b) ∧ Only (S :: sat :: (Value.slice sao n scp).ownBlock.toList) w w' := by
  refine enterL (args := [.pointer (some ⟨S, 0, none⟩), .slice vao k vcp]) Tryz.func78 rfl rfl rfl ?_
  refine CW.seq fun K1 hK1 => ?_
  refine CW.region ?_
  refine WL.to (E' := [(0, .pointer (some ⟨S, 0, none⟩)), (1, .slice vao k vcp), (4, .int .i64 0), (5, .int .i64 0)]) 2 [0, 1, 4, 5] (by kernel_rfl) ?_
  refine WL.nil ?_
  refine hK1 _ _ _ ?_
  refine CW.seq fun K2 hK2 => ?_
  refine CW.region ?_
  refine WL.to (E' := [(0, .pointer (some ⟨S, 0, none⟩)), (1, .slice vao k vcp), (4, .int .i64 0), (5, .int .i64 0), (10, .pointer (some ⟨S, 4, none⟩))]) 3 [0, 1, 4, 5, 10] (by kernel_rfl) ?_
  refine WL.load1 rfl agg2 rfl rfl hS rfl ?_
  refine WL.to (E' := [(0, .pointer (some ⟨S, 0, none⟩)), (1, .slice vao k vcp), (4, .int .i64 0), (5, .int .i64 0), (6, .int .i64 nx)]) 1 [0, 1, 4, 5, 6] (by kernel_rfl) ?_
  refine WL.nil ?_
  refine hK2 _ _ _ ?_
  refine CW.seq fun K3 hK3 => ?_
  refine CW.seq fun K4 hK4 => ?_
  refine CW.region ?_
  refine WL.to (E' := [(0, .pointer (some ⟨S, 0, none⟩)), (4, .int .i64 0), (5, .int .i64 0), (6, .int .i64 nx), (12, .pointer (some ⟨S, 0, none⟩)), (13, .int .i64 nx), (14, .slice vao k vcp)]) 3 [0, 4, 5, 6, 12, 13, 14] (by kernel_rfl) ?_
  refine WL.build (vs := [(0, .int .i64 nx), (1, .int .i64 1), (2, .slice vao k vcp)]) (v := .agg #[.int .i64 nx, .int .i64 1, .slice vao k vcp]) rfl rfl rfl (by kernel_rfl) ?_
  refine WL.call rfl rfl rfl rfl ent113 rfl (adds_of hS hA hO hF h h1 (by omega) hnew (by omega) (by omega) (by omega)) ?_
  rintro _ w5 ⟨ao15, cp16, ao13, cp14, rfl, h7, h8, h9, h10, f11, f12, u6⟩
  refine WL.to (E' := [(0, .pointer (some ⟨S, 0, none⟩)), (4, .int .i64 0), (5, .int .i64 0), (6, .int .i64 nx), (7, .int .i64 0)]) 1 [0, 4, 5, 6, 7] (by kernel_rfl) ?_
  refine WL.nil ?_
  refine hK4 _ _ _ ?_
  refine CW.seq fun K17 hK17 => ?_
  refine CW.region ?_
  refine WL.to (E' := [(0, .pointer (some ⟨S, 0, none⟩)), (4, .int .i64 0), (5, .int .i64 0), (6, .int .i64 nx), (7, .int .i64 0), (18, .bool false)]) 2 [0, 4, 5, 6, 7, 18] (by kernel_rfl) ?_
  refine WL.nil ?_
  refine hK17 _ _ _ ?_
  refine CW.condF rfl ?_
  refine CW.skip ?_
  refine hK3 _ _ _ ?_
  refine CW.seq fun K18 hK18 => ?_
  refine CW.region ?_
  refine WL.to (E' := [(4, .int .i64 0), (5, .int .i64 0), (6, .int .i64 nx), (20, .pointer (some ⟨S, 0, none⟩)), (22, .pointer (some ⟨S, 4, none⟩))]) 3 [4, 5, 6, 20, 22] (by kernel_rfl) ?_
  refine WL.load1 rfl agg2 rfl rfl h7 rfl ?_
  refine WL.to (E' := [(4, .int .i64 0), (5, .int .i64 0), (6, .int .i64 nx), (20, .pointer (some ⟨S, 0, none⟩)), (24, .int .i64 (IntKind.i64.wrap (nx + 1)))]) 1 [4, 5, 6, 20, 24] (by kernel_rfl) ?_
  refine WL.chg 24 (.int .i64 (nx + 1)) rfl (congrArg (Value.int .i64) (i64_in _ (by omega))) ?_
  refine WL.to (E' := [(4, .int .i64 0), (5, .int .i64 0), (6, .int .i64 nx), (24, .int .i64 (nx + 1)), (26, .pointer (some ⟨S, 4, none⟩))]) 2 [4, 5, 6, 24, 26] (by kernel_rfl) ?_
  refine WL.store1 rfl siz2 rfl rfl rfl h7 rfl ?_
  intro w19 h20 u21 z22
  refine WL.sub [(4, .int .i64 0), (5, .int .i64 0), (6, .int .i64 nx)] ⟨rfl, rfl, rfl, trivial⟩ ?_
  refine WL.nil ?_
  refine hK18 _ _ _ ?_
  refine CW.seq fun K23 hK23 => ?_
  refine CW.region ?_
  refine WL.to (E' := [(4, .int .i64 nx), (5, .int .i64 0)]) 3 [4, 5] (by kernel_rfl) ?_
  refine WL.nil ?_
  refine hK23 _ _ _ ?_
  have h24 := (h8.keep u21 (nmc (Ne.symm (Blk.neK h7 h8)) nm0))
  have h25 := (h9.keep' u21 (disc (Own.ne h9 h7 rfl) dis0))
  have h26 := (h10.keep' u21 (disc (Own.ne h10 h7 rfl) dis0))
  refine CW.ret fun a ha => ?_
  try simp (decide := true) only [Exit.inBlock, Exit.then, ↓reduceIte]
  exact fin ha.defers (res_tmp2 rfl ha rfl rfl _) ⟨_, _, _, _, rfl, h20, h24, h25, h26, (fun b hb => by have := f11 b hb; omega), (fun b hb => (f12 b hb).imp_right (fun h => by omega)), ((u6.trans u21).sub (by intro k hk hl; simp only [Option.mem_toList, Option.mem_def, List.mem_append, List.mem_cons, List.not_mem_nil, or_false, false_or] at hk ⊢; have := u6.size; have := u21.size; grind))⟩
end Go.K

namespace Go.K
open Go.Proofs
set_option maxRecDepth 8000
set_option maxHeartbeats 1000000
set_option linter.unusedSimpArgs false
set_option linter.unusedVariables false
theorem logadd_of {w : World} {lg : Nat} {f : Value} {lao : Option Addr} {m lcp : Nat} {fns : List Value} (hl : Blk w lg [.slice lao m lcp] 126) (hlo : Own w (.slice lao m lcp) 1 1 m fns) (hf : f.oneCell' = true) (hm : m ≤ 100000) :
    Ret Tryz.prog 42 #[.pointer (some ⟨lg, 0, none⟩), f] w fun v w' => ∃ lao' lcp', v = .tuple #[] ∧ Blk w' lg [.slice lao' (m + 1) lcp'] 126 ∧ Own w' (.slice lao' (m + 1) lcp') 1 1 (m + 1) (fns ++ [f]) ∧ (∀ b, (Value.slice lao' (m + 1) lcp').ownBlock = some b → (Value.slice lao m lcp).ownBlock = some b ∨ w.heap.size ≤ b) ∧ Only (lg :: (Value.slice lao m lcp).ownBlock.toList) w w' := by
  refine enterL (args := [.pointer (some ⟨lg, 0, none⟩), f]) Tryz.func42 rfl rfl rfl ?_
  refine CW.region ?_
  refine WL.to (E' := [(1, f), (4, .pointer (some ⟨lg, 0, none⟩)), (7, .pointer (some ⟨lg, 0, none⟩))]) 4 [1, 4, 7] (by kernel_rfl) ?_
  refine WL.load1 rfl agg124 rfl rfl hl rfl ?_
  refine WL.to (E' := [(4, .pointer (some ⟨lg, 0, none⟩)), (8, .slice lao m lcp), (9, f)]) 1 [4, 8, 9] (by kernel_rfl) ?_
  refine WL.buildSlice (vs := [(0, f)]) (cs := [f]) rfl rfl Tryz.underlying124 rfl (litCells_one siz1 zer1 hf) ?_
  intro w1 b2 h3 u4 g5
  have h6 := (hlo.keep' u4 dis0)
  refine WL.appT (k := m) (xs := fns) rfl Tryz.underlying124 inf1 rfl rfl rfl rfl rfl h6 h3 rfl rfl (by simp [hf]) ⟨by omega, by omega⟩ ?_
  intro v11 w7 h8 u9 f10
  obtain ⟨ao12, cp13, rfl⟩ := h8.form
  refine WL.to (E' := [(11, .slice ao12 (m + 1) cp13), (13, .pointer (some ⟨lg, 0, none⟩))]) 2 [11, 13] (by kernel_rfl) ?_
  have h14 := (hl.keep u4 nm0)
  have h15 := (h14.keep u9 (Own.ne h6 h14 rfl))
  refine WL.store1 rfl siz124 rfl rfl rfl h15 rfl ?_
  intro w16 h17 u18 z19
  refine WL.sub [] trivial ?_
  refine WL.nil ?_
  have h20 := (h8.keep' u18 (disc (Own.ne h8 h15 rfl) dis0))
  intro a ha
  try simp (decide := true) only [Exit.inBlock, Exit.then, ↓reduceIte]
  exact finN ha.defers (res_none rfl _) ⟨_, _, rfl, h17, h20, (fun b hb => (f10 b hb).imp_right (fun h => by have := u4.size; omega)), (((u4.trans u9).trans u18).sub (by intro k hk hl; simp only [Option.mem_toList, Option.mem_def, List.mem_append, List.mem_cons, List.not_mem_nil, or_false, false_or] at hk ⊢; have := u4.size; have := u9.size; have := u18.size; have := f10; grind))⟩

theorem well_of {w : World} {um : FrameMode} {wb a1 a2 : Nat} (hb : Blk w wb [.bool true] 4) :
    CallsD Tryz.prog 104 #[.pointer (some ⟨wb, 0, none⟩), .pointer (some ⟨a1, 0, none⟩), .pointer (some ⟨a2, 0, none⟩)] um w (fun e u' w' => u' = um ∧ ∃ v, e = .returned v ∧ (fun v w' => v = .tuple #[] ∧ w' = w) v w') := by
  refine callD_of (args := [.pointer (some ⟨wb, 0, none⟩), .pointer (some ⟨a1, 0, none⟩), .pointer (some ⟨a2, 0, none⟩)]) Tryz.func104 rfl rfl rfl ?_
  refine CW.seq fun K1 hK1 => ?_
  refine CW.seq fun K2 hK2 => ?_
  refine CW.region ?_
  refine WL.load1 rfl agg4 rfl rfl hb rfl ?_
  refine WL.sub [(1, .pointer (some ⟨a1, 0, none⟩)), (2, .pointer (some ⟨a2, 0, none⟩)), (4, .bool true)] ⟨rfl, rfl, rfl, trivial⟩ ?_
  refine WL.nil ?_
  refine hK2 _ _ _ ?_
  refine CW.condT rfl ?_
  refine CW.ret fun a ha => ?_
  try simp (decide := true) only [Exit.inBlock, Exit.then, ↓reduceIte]
  exact fin ha.defers (res_none rfl _) ⟨rfl, rfl⟩

theorem do_of {lg : Nat} {w : World} {g : FuncId} {caps : List Value} {S : List Nat} {C : World → Value → World → Prop} (hent : enters Tryz.prog g = true) {lao : Option Addr} {m lcp : Nat} (hl : Blk w lg [.slice lao m lcp] 126) (hS : ∀ b ∈ S, b < w.heap.size) (hc : ∀ w1, Only [] w w1 → Ret Tryz.prog g caps.toArray w1 (C w1)) (hCS : ∀ w1 v w2, C w1 v w2 → v = .nilIface ∧ Only S w1 w2) :
    Ret Tryz.prog 67 #[.pointer (some ⟨lg, 0, none⟩), .func (.func g) #[] caps.toArray] w fun v w' => v = .nilIface ∧ ∃ w1 w2 wb, Only [] w w1 ∧ C w1 .nilIface w2 ∧ Blk w2 wb [.bool false] 4 ∧ w.heap.size ≤ wb ∧ Only [wb] w2 w' := by
  refine enterLD (args := [.pointer (some ⟨lg, 0, none⟩), .func (.func g) #[] caps.toArray]) Tryz.func67 rfl rfl rfl ?_
  refine CW.seq fun K1 hK1 => ?_
  refine CW.region ?_
  refine WL.box (cs := [.pointer (some ⟨lg, 0, none⟩)]) rfl rfl rfl rfl ?_
  intro w2 b3 h4 u5 g6
  refine WL.to (E' := [(1, .func (.func g) #[] caps.toArray), (2, .pointer (some ⟨b3, 0, none⟩)), (4, .nilIface)]) 1 [1, 2, 4] (by kernel_rfl) ?_
  refine WL.nil ?_
  refine hK1 _ _ _ ?_
  refine CW.seq fun K7 hK7 => ?_
  refine CW.region ?_
  refine WL.load1 rfl agg70 rfl rfl h4 rfl ?_
  have h8 := (hl.keep u5 nm0)
  refine WL.callQ (v := .int .i64 ((m : Nat) : Int)) rfl rfl rfl rfl ent38 rfl (mark_of h8) ?_
  refine WL.alloc (cs := [.int .i64 0]) rfl rfl zer3 rfl ?_
  intro w9 b10 h11 u12 g13
  refine WL.store1 rfl siz3 rfl rfl rfl h11 rfl ?_
  intro w14 h15 u16 z17
  refine WL.sub [(1, .func (.func g) #[] caps.toArray), (2, .pointer (some ⟨b3, 0, none⟩)), (4, .nilIface), (5, .pointer (some ⟨b10, 0, none⟩))] ⟨rfl, rfl, rfl, rfl, trivial⟩ ?_
  refine WL.nil ?_
  refine hK7 _ _ _ ?_
  refine CW.seq fun K18 hK18 => ?_
  refine CW.region ?_
  refine WL.alloc (cs := [.bool false]) rfl rfl zer4 rfl ?_
  intro w19 b20 h21 u22 g23
  refine WL.store1 rfl siz4 rfl rfl rfl h21 rfl ?_
  intro w24 h25 u26 z27
  refine WL.nil ?_
  refine hK18 _ _ _ ?_
  refine CW.seq fun K28 hK28 => ?_
  refine CW.region ?_
  refine WL.to (E' := [(1, .func (.func g) #[] caps.toArray), (4, .nilIface), (6, .pointer (some ⟨b20, 0, none⟩)), (9, .func (.func 104) #[] #[.pointer (some ⟨b20, 0, none⟩), .pointer (some ⟨b3, 0, none⟩), .pointer (some ⟨b10, 0, none⟩)])]) 1 [1, 4, 6, 9] (by kernel_rfl) ?_
  refine WL.defer_ (f := 104) (caps := [.pointer (some ⟨b20, 0, none⟩), .pointer (some ⟨b3, 0, none⟩), .pointer (some ⟨b10, 0, none⟩)]) rfl rfl ?_
  refine WL.sub [(1, .func (.func g) #[] caps.toArray), (4, .nilIface), (6, .pointer (some ⟨b20, 0, none⟩))] ⟨rfl, rfl, rfl, trivial⟩ ?_
  refine WL.nil ?_
  refine hK28 _ _ _ ?_
  refine CW.seq fun K29 hK29 => ?_
  refine CW.region ?_
  refine WL.to (E' := [(4, .nilIface), (6, .pointer (some ⟨b20, 0, none⟩)), (10, .func (.func g) #[] caps.toArray)]) 1 [4, 6, 10] (by kernel_rfl) ?_
  refine WL.call (f := g) (caps := caps) (all := caps) rfl rfl rfl rfl hent rfl (hc _ (((((u5.trans u12).trans u16).trans u22).trans u26).sub (by intro k hk hl; simp only [Value.ownBlock, Option.toList, List.mem_append, List.mem_cons, List.not_mem_nil, or_false, false_or] at hk; have := g13; have := g23; have := u5.size; have := u12.size; have := u16.size; have := u22.size; have := u26.size; omega))) ?_
  intro v30 w31 hC32
  obtain ⟨rfl, u33⟩ := hCS _ _ _ hC32
  refine WL.to (E' := [(4, .nilIface), (6, .pointer (some ⟨b20, 0, none⟩))]) 1 [4, 6] (by kernel_rfl) ?_
  refine WL.nil ?_
  refine hK29 _ _ _ ?_
  refine CW.seq fun K34 hK34 => ?_
  refine CW.region ?_
  refine WL.to (E' := [(4, .nilIface), (6, .pointer (some ⟨b20, 0, none⟩)), (13, .bool true)]) 2 [4, 6, 13] (by kernel_rfl) ?_
  have h35 := (h25.keep u33 (fun hm => by have := hS _ hm; have := g23; have := u5.size; have := u12.size; have := u16.size; omega))
  refine WL.store1 rfl siz4 rfl rfl rfl h35 rfl ?_
  intro w36 h37 u38 z39
  refine WL.sub [(4, .nilIface)] ⟨rfl, trivial⟩ ?_
  refine WL.nil ?_
  refine hK34 _ _ _ ?_
  refine CW.seq fun K40 hK40 => ?_
  refine CW.region ?_
  refine WL.to (E' := [(4, .nilIface)]) 2 [4] (by kernel_rfl) ?_
  refine WL.nil ?_
  refine hK40 _ _ _ ?_
  refine CW.ret fun a ha => ?_
  refine fin1 ha ent104 (well_of h37) ?_
  rintro v w' ⟨rfl, rfl⟩
  exact ⟨_, res_tmp rfl ha rfl _, rfl, _, _, b20, (((((u5.trans u12).trans u16).trans u22).trans u26).sub (by intro k hk hl; simp only [Value.ownBlock, Option.toList, List.mem_append, List.mem_cons, List.not_mem_nil, or_false, false_or] at hk; have := g13; have := g23; have := u5.size; have := u12.size; have := u16.size; have := u22.size; have := u26.size; omega)), hC32, h35, (by have := g23; have := u5.size; have := u12.size; have := u16.size; omega), u38⟩

theorem idle_of {w : World} {um : FrameMode} {bx m : Nat} {v0 v1 v2 v3 : Value} (hb : Blk w bx [.pointer (some ⟨m, 0, none⟩)] 24) (hm : Blk w m [v0, v1, v2, v3, .bool true] 75) :
    CallsD Tryz.prog 54 #[.pointer (some ⟨bx, 0, none⟩)] um w (fun e u' w' => u' = um ∧ ∃ v, e = .returned v ∧ (fun v w' => v = .tuple #[] ∧ Blk w' m [v0, v1, v2, v3, .bool false] 75 ∧ Only [m] w w') v w') := by
  refine callD_of (args := [.pointer (some ⟨bx, 0, none⟩)]) Tryz.func54 rfl rfl rfl ?_
  refine CW.region ?_
  refine WL.load1 rfl agg24 rfl rfl hb rfl ?_
  refine WL.to (E' := [(3, .pointer (some ⟨m, 4, none⟩))]) 2 [3] (by kernel_rfl) ?_
  refine WL.store1 rfl siz4 rfl rfl rfl hm rfl ?_
  intro w1 h2 u3 z4
  refine WL.sub [] trivial ?_
  refine WL.nil ?_
  intro a ha
  try simp (decide := true) only [Exit.inBlock, Exit.then, ↓reduceIte]
  exact finN ha.defers (res_none rfl _) ⟨rfl, h2, u3⟩

theorem alone_of {m : Nat} {v0 v1 v2 v3 : Value} {w : World} {g : FuncId} {caps : List Value} {S : List Nat} {C : World → Value → World → Prop} (hent : enters Tryz.prog g = true) (hm : Blk w m [v0, v1, v2, v3, .bool false] 75) (hS : ∀ b ∈ S, b < w.heap.size) (hc : ∀ w1, Only [m] w w1 → Blk w1 m [v0, v1, v2, v3, .bool true] 75 → Ret Tryz.prog g caps.toArray w1 (C w1)) (hCS : ∀ w1 v w2, C w1 v w2 → ∃ u0 u1 u2 u3, Blk w2 m [u0, u1, u2, u3, .bool true] 75 ∧ Only S w1 w2) :
    Ret Tryz.prog 30 #[.pointer (some ⟨m, 0, none⟩), .func (.func g) #[] caps.toArray] w fun v w' => ∃ w1 w2 u0 u1 u2 u3, Only [m] w w1 ∧ Blk w1 m [v0, v1, v2, v3, .bool true] 75 ∧ C w1 v w2 ∧ Blk w2 m [u0, u1, u2, u3, .bool true] 75 ∧ Blk w' m [u0, u1, u2, u3, .bool false] 75 ∧ Only [m] w2 w' := by
  refine enterLD (args := [.pointer (some ⟨m, 0, none⟩), .func (.func g) #[] caps.toArray]) Tryz.func30 rfl rfl rfl ?_
  refine CW.seq fun K1 hK1 => ?_
  refine CW.region ?_
  refine WL.box (cs := [.pointer (some ⟨m, 0, none⟩)]) rfl rfl rfl rfl ?_
  intro w2 b3 h4 u5 g6
  refine WL.to (E' := [(1, .func (.func g) #[] caps.toArray), (2, .pointer (some ⟨b3, 0, none⟩)), (4, .nilIface)]) 1 [1, 2, 4] (by kernel_rfl) ?_
  refine WL.nil ?_
  refine hK1 _ _ _ ?_
  refine CW.seq fun K7 hK7 => ?_
  refine CW.seq fun K8 hK8 => ?_
  refine CW.region ?_
  refine WL.load1 rfl agg24 rfl rfl h4 rfl ?_
  refine WL.to (E' := [(1, .func (.func g) #[] caps.toArray), (2, .pointer (some ⟨b3, 0, none⟩)), (4, .nilIface), (7, .pointer (some ⟨m, 4, none⟩))]) 2 [1, 2, 4, 7] (by kernel_rfl) ?_
  have h9 := (hm.keep u5 nm0)
  refine WL.load1 rfl agg4 rfl rfl h9 rfl ?_
  refine WL.sub [(1, .func (.func g) #[] caps.toArray), (2, .pointer (some ⟨b3, 0, none⟩)), (4, .nilIface), (8, .bool false)] ⟨rfl, rfl, rfl, rfl, trivial⟩ ?_
  refine WL.nil ?_
  refine hK8 _ _ _ ?_
  refine CW.condF rfl ?_
  refine CW.skip ?_
  refine hK7 _ _ _ ?_
  refine CW.seq fun K10 hK10 => ?_
  refine CW.region ?_
  refine WL.load1 rfl agg24 rfl rfl h4 rfl ?_
  refine WL.to (E' := [(1, .func (.func g) #[] caps.toArray), (2, .pointer (some ⟨b3, 0, none⟩)), (4, .nilIface), (12, .pointer (some ⟨m, 4, none⟩))]) 2 [1, 2, 4, 12] (by kernel_rfl) ?_
  refine WL.store1 rfl siz4 rfl rfl rfl h9 rfl ?_
  intro w11 h12 u13 z14
  refine WL.sub [(1, .func (.func g) #[] caps.toArray), (2, .pointer (some ⟨b3, 0, none⟩)), (4, .nilIface)] ⟨rfl, rfl, rfl, trivial⟩ ?_
  refine WL.nil ?_
  refine hK10 _ _ _ ?_
  refine CW.seq fun K15 hK15 => ?_
  refine CW.region ?_
  refine WL.to (E' := [(1, .func (.func g) #[] caps.toArray), (4, .nilIface), (13, .func (.func 54) #[] #[.pointer (some ⟨b3, 0, none⟩)])]) 1 [1, 4, 13] (by kernel_rfl) ?_
  refine WL.defer_ (f := 54) (caps := [.pointer (some ⟨b3, 0, none⟩)]) rfl rfl ?_
  refine WL.sub [(1, .func (.func g) #[] caps.toArray), (4, .nilIface)] ⟨rfl, rfl, trivial⟩ ?_
  refine WL.nil ?_
  refine hK15 _ _ _ ?_
  refine CW.seq fun K16 hK16 => ?_
  refine CW.region ?_
  refine WL.to (E' := [(4, .nilIface), (14, .func (.func g) #[] caps.toArray)]) 1 [4, 14] (by kernel_rfl) ?_
  refine WL.call (f := g) (caps := caps) (all := caps) rfl rfl rfl rfl hent rfl (hc _ ((u5.trans u13).sub (by intro k hk hl; simp only [List.mem_append, List.mem_cons, List.not_mem_nil, or_false, false_or] at hk ⊢; have := u5.size; have := u13.size; omega)) h12) ?_
  intro v17 w18 hC19
  obtain ⟨u22, u23, u24, u25, h21, u20⟩ := hCS _ _ _ hC19
  refine WL.to (E' := [(4, v17)]) 1 [4] (by kernel_rfl) ?_
  refine WL.nil ?_
  refine hK16 _ _ _ ?_
  refine CW.ret fun a ha => ?_
  have h26 := (h4.keep u13 (nmc (Blk.ne h4 h9 rfl) nm0))
  have h27 := (h26.keep u20 (fun hm => by have := hS _ hm; have := g6; omega))
  refine fin1 ha ent54 (idle_of h27 h21) ?_
  rintro v w' ⟨rfl, hm', u'⟩
  exact ⟨_, res_tmp rfl ha rfl _, _, _, _, _, _, _, ((u5.trans u13).sub (by intro k hk hl; simp only [List.mem_append, List.mem_cons, List.not_mem_nil, or_false, false_or] at hk ⊢; have := u5.size; have := u13.size; omega)), h12, hC19, h21, hm', u'⟩
end Go.K

namespace Go.K
open Go.Proofs
set_option maxRecDepth 8000
set_option maxHeartbeats 1000000
set_option linter.unusedSimpArgs false
set_option linter.unusedVariables false
theorem ins1_of {w : World} {t sh S k cps : Nat} {h1 h2 : Value} {mx : Int} {sat F n scp : Nat} {sao : Option Addr} {smx nx wr : Int} (ht : Blk w t [.slice (some ⟨sh, 0, none⟩) k cps, h1, h2, .pointer (some ⟨S, 0, none⟩), .int .i64 mx, .slice none 0 0, .slice none 0 0] 116) (hS : Blk w S [.slice sao n scp, .map (some sat), .pointer (some ⟨F, 0, none⟩), .int .i64 smx, .int .i64 nx, .int .i64 wr] 121) {idx : List (Int × Value)} (hA : KMap ki w sat idx) {xs : List Value} (hO : Own w (.slice sao n scp) 214 3 n xs) {fa : Option Addr} {fc : Nat} {fb : Value} (hF : Blk w F [.slice fa 0 fc, fb] 246) {vao : Option Addr} {k vcp : Nat} {fs : List Value} (h : Own w (.slice vao k vcp) 58 4 k fs) (h1 : fs.all Value.oneCell' = true) (hk : k ≤ 1000) {lg : Nat} {lao : Option Addr} {m lcp : Nat} {fns : List Value} (hl : Blk w lg [.slice lao m lcp] 126) (hlo : Own w (.slice lao m lcp) 1 1 m fns) {bt bk bl bi br bv : Nat} (hbt : Blk w bt [.pointer (some ⟨t, 0, none⟩)] 60) (hbk : Blk w bk [.slice none 0 0] 155) (hbl : Blk w bl [.pointer (some ⟨lg, 0, none⟩)] 70) (hbi : Blk w bi [.int .i64 nx] 2) (hbr : Blk w br [.pointer (some ⟨S, 0, none⟩)] 63) (hbv : Blk w bv [.slice vao k vcp] 38) (hnew : look idx nx = none) (hroom : ((idx.length : Nat) : Int) < smx) (hn : n ≤ 100000) (hw : -1000000 ≤ wr ∧ wr ≤ 1000000) (hx : -1000000 ≤ nx ∧ nx ≤ 1000000) (hm : m ≤ 100000) :
    Ret Tryz.prog 74 #[.pointer (some ⟨bt, 0, none⟩), .pointer (some ⟨bk, 0, none⟩), .pointer (some ⟨bl, 0, none⟩), .pointer (some ⟨bi, 0, none⟩), .pointer (some ⟨br, 0, none⟩), .pointer (some ⟨bv, 0, none⟩)] w fun v w' => v = .nilIface ∧ ∃ sao' scp' ao cp lao' lcp', Blk w' S [.slice sao' (n + 1) scp', .map (some sat), .pointer (some ⟨F, 0, none⟩), .int .i64 smx, .int .i64 (nx + 1), .int .i64 (wr + 1)] 121 ∧ KMap ki w' sat (idx ++ [(nx, .int .i64 ((n : Nat) : Int))]) ∧ Own w' (.slice sao' (n + 1) scp') 214 3 (n + 1) (setAll (xs ++ [.int .i64 0, .int .i64 0, .slice none 0 0]) (n * 3) [.int .i64 nx, .int .i64 1, .slice ao k cp]) ∧ Own w' (.slice ao k cp) 58 4 k fs ∧ (∀ b, (Value.slice ao k cp).ownBlock = some b → w.heap.size ≤ b) ∧ (∀ b, (Value.slice sao' (n + 1) scp').ownBlock = some b → (Value.slice sao n scp).ownBlock = some b ∨ w.heap.size ≤ b) ∧ Blk w' lg [.slice lao' (m + 1) lcp'] 126 ∧ Own w' (.slice lao' (m + 1) lcp') 1 1 (m + 1) (fns ++ [.func (.func 79) #[] #[.pointer (some ⟨br, 0, none⟩), .pointer (some ⟨bi, 0, none⟩)]]) ∧ (∀ b, (Value.slice lao' (m + 1) lcp').ownBlock = some b → (Value.slice lao m lcp).ownBlock = some b ∨ w.heap.size ≤ b) ∧ Only ([S, sat, lg] ++ (Value.slice sao n scp).ownBlock.toList ++ (Value.slice lao m lcp).ownBlock.toList) w w' := by
  refine enterL (args := [.pointer (some ⟨bt, 0, none⟩), .pointer (some ⟨bk, 0, none⟩), .pointer (some ⟨bl, 0, none⟩), .pointer (some ⟨bi, 0, none⟩), .pointer (some ⟨br, 0, none⟩), .pointer (some ⟨bv, 0, none⟩)]) Tryz.func74 rfl rfl rfl ?_
  refine CW.seq fun K1 hK1 => ?_
  refine CW.region ?_
  refine WL.to (E' := [(0, .pointer (some ⟨bt, 0, none⟩)), (1, .pointer (some ⟨bk, 0, none⟩)), (2, .pointer (some ⟨bl, 0, none⟩)), (3, .pointer (some ⟨bi, 0, none⟩)), (4, .pointer (some ⟨br, 0, none⟩)), (5, .pointer (some ⟨bv, 0, none⟩)), (6, .nilIface)]) 1 [0, 1, 2, 3, 4, 5, 6] (by kernel_rfl) ?_
  refine WL.nil ?_
  refine hK1 _ _ _ ?_
  refine CW.seq fun K2 hK2 => ?_
  refine CW.seq fun K3 hK3 => ?_
  refine CW.region ?_
  refine WL.load1 rfl agg60 rfl rfl hbt rfl ?_
  refine WL.load1 rfl agg155 rfl rfl hbk rfl ?_
  refine WL.to (E' := [(2, .pointer (some ⟨bl, 0, none⟩)), (3, .pointer (some ⟨bi, 0, none⟩)), (4, .pointer (some ⟨br, 0, none⟩)), (5, .pointer (some ⟨bv, 0, none⟩)), (6, .nilIface), (8, .pointer (some ⟨t, 0, none⟩)), (9, .slice none 0 0), (10, .func (.func 76) #[] #[.pointer (some ⟨bl, 0, none⟩), .pointer (some ⟨bi, 0, none⟩)])]) 1 [2, 3, 4, 5, 6, 8, 9, 10] (by kernel_rfl) ?_
  refine WL.callQ (v := .nilIface) rfl rfl rfl rfl ent75 rfl (applied_of ht) ?_
  refine WL.to (E' := [(2, .pointer (some ⟨bl, 0, none⟩)), (3, .pointer (some ⟨bi, 0, none⟩)), (4, .pointer (some ⟨br, 0, none⟩)), (5, .pointer (some ⟨bv, 0, none⟩)), (6, .nilIface), (7, .nilIface)]) 1 [2, 3, 4, 5, 6, 7] (by kernel_rfl) ?_
  refine WL.nil ?_
  refine hK3 _ _ _ ?_
  refine CW.seq fun K4 hK4 => ?_
  refine CW.region ?_
  refine WL.to (E' := [(2, .pointer (some ⟨bl, 0, none⟩)), (3, .pointer (some ⟨bi, 0, none⟩)), (4, .pointer (some ⟨br, 0, none⟩)), (5, .pointer (some ⟨bv, 0, none⟩)), (6, .nilIface), (7, .nilIface), (13, .bool false)]) 2 [2, 3, 4, 5, 6, 7, 13] (by kernel_rfl) ?_
  refine WL.nil ?_
  refine hK4 _ _ _ ?_
  refine CW.condF rfl ?_
  refine CW.skip ?_
  refine hK2 _ _ _ ?_
  refine CW.seq fun K5 hK5 => ?_
  refine CW.region ?_
  refine WL.load1 rfl agg63 rfl rfl hbr rfl ?_
  refine WL.load1 rfl agg38 rfl rfl hbv rfl ?_
  refine WL.call rfl rfl rfl rfl ent78 rfl (insert_of hS hA hO hF h h1 (by omega) hnew (by omega) (by omega) (by omega) (by omega)) ?_
  rintro _ w6 ⟨ao16, cp17, ao14, cp15, rfl, h8, h9, h10, h11, f12, f13, u7⟩
  refine WL.sub [(2, .pointer (some ⟨bl, 0, none⟩)), (3, .pointer (some ⟨bi, 0, none⟩)), (4, .pointer (some ⟨br, 0, none⟩)), (6, .nilIface)] ⟨rfl, rfl, rfl, rfl, trivial⟩ ?_
  refine WL.nil ?_
  refine hK5 _ _ _ ?_
  refine CW.seq fun K18 hK18 => ?_
  refine CW.region ?_
  have h19 := (hbl.keep u7 (nma (nmc (Blk.ne hbl hS rfl) (nmc (Blk.neK hbl hA) nm0)) (Own.ne hO hbl rfl)))
  refine WL.load1 rfl agg70 rfl rfl h19 rfl ?_
  refine WL.to (E' := [(6, .nilIface), (18, .pointer (some ⟨lg, 0, none⟩)), (19, .func (.func 79) #[] #[.pointer (some ⟨br, 0, none⟩), .pointer (some ⟨bi, 0, none⟩)])]) 1 [6, 18, 19] (by kernel_rfl) ?_
  have h20 := (hl.keep u7 (nma (nmc (Blk.ne hl hS rfl) (nmc (Blk.neK hl hA) nm0)) (Own.ne hO hl rfl)))
  have h21 := (hlo.keep' u7 (disa (disc (Own.ne hlo hS rfl) (disc (Own.neM hlo hA) dis0)) (Own.neO hlo hO rfl)))
  refine WL.call rfl rfl rfl rfl ent42 rfl (logadd_of (f := .func (.func 79) #[] #[.pointer (some ⟨br, 0, none⟩), .pointer (some ⟨bi, 0, none⟩)]) h20 h21 rfl (by omega)) ?_
  rintro _ w28 ⟨ao22, cp23, rfl, h24, h25, f26, u27⟩
  refine WL.sub [(6, .nilIface)] ⟨rfl, trivial⟩ ?_
  refine WL.nil ?_
  refine hK18 _ _ _ ?_
  refine CW.seq fun K29 hK29 => ?_
  refine CW.region ?_
  refine WL.to (E' := [(6, .nilIface)]) 1 [6] (by kernel_rfl) ?_
  refine WL.nil ?_
  refine hK29 _ _ _ ?_
  have h30 := (h8.keep u27 (nma (nmc (Blk.ne h8 h20 rfl) nm0) (Own.ne h21 h8 rfl)))
  have h31 := (h9.keep u27 (nma (nmc (Ne.symm (Blk.neK h20 h9)) nm0) (Own.neM h21 h9)))
  have h32 := (h10.keep' u27 (disa (disc (Own.ne h10 h20 rfl) dis0) (Own.neO h10 h21 rfl)))
  have h33 := (h11.keep' u27 (disa (disc (Own.ne h11 h20 rfl) dis0) (Own.neO h11 h21 rfl)))
  refine CW.ret fun a ha => ?_
  try simp (decide := true) only [Exit.inBlock, Exit.then, ↓reduceIte]
  exact fin ha.defers (res_tmp rfl ha rfl _) ⟨rfl, _, _, _, _, _, _, h30, h31, h32, h33, (fun b hb => by have := f12 b hb; omega), (fun b hb => (f13 b hb).imp_right (fun h => by omega)), h24, h25, (fun b hb => (f26 b hb).imp_right (fun h => by have := u7.size; omega)), ((u7.trans u27).sub (by intro k hk hl; simp only [Option.mem_toList, Option.mem_def, List.mem_append, List.mem_cons, List.not_mem_nil, or_false, false_or] at hk ⊢; have := u7.size; have := u27.size; have := f13; have := f26; grind))⟩

theorem cins1 {w : World} {t sh S cps : Nat} {h1 h2 : Value} {mx : Int} {sat F n scp : Nat} {sao : Option Addr} {smx nx wr : Int} (ht : Blk w t [.slice (some ⟨sh, 0, none⟩) 1 cps, h1, h2, .pointer (some ⟨S, 0, none⟩), .int .i64 mx, .slice none 0 0, .slice none 0 0] 116) (hS : Blk w S [.slice sao n scp, .map (some sat), .pointer (some ⟨F, 0, none⟩), .int .i64 smx, .int .i64 nx, .int .i64 wr] 121) {idx : List (Int × Value)} (hA : KMap ki w sat idx) {xs : List Value} (hO : Own w (.slice sao n scp) 214 3 n xs) {fa : Option Addr} {fc : Nat} {fb : Value} (hF : Blk w F [.slice fa 0 fc, fb] 246)  {lg : Nat} {lao : Option Addr} {m lcp : Nat} {fns : List Value} (hl : Blk w lg [.slice lao m lcp] 126) (hlo : Own w (.slice lao m lcp) 1 1 m fns) {vb : Nat} {x : Int} {rest : List Value} {c : UInt8} (hc : 97 ≤ c.toNat ∧ c.toNat ≤ 122) (hs : Blk w sh (.string (⟨#[c]⟩) :: .int .i64 1 :: rest) 51) (hv : Blk w vb [.int .i64 1, .int .i64 x, .string ByteArray.empty, .float .f64 0] 58) (hcp : 1 ≤ cps) (hfull : ((idx.length : Nat) : Int) < mx) (hnew : look idx nx = none) (hroom : ((idx.length : Nat) : Int) < smx) (hn : n ≤ 100000) (hw : -1000000 ≤ wr ∧ wr ≤ 1000000) (hx : -1000000 ≤ nx ∧ nx ≤ 1000000) (hm : m ≤ 100000) :
    Ret Tryz.prog 41 #[.pointer (some ⟨t, 0, none⟩), .pointer (some ⟨lg, 0, none⟩), .slice (some ⟨vb, 0, none⟩) 1 1] w fun v w' => ∃ br bi sao' scp' ao cp lao' lcp', v = .tuple #[.int .i64 nx, .nilIface] ∧ Blk w' br [.pointer (some ⟨S, 0, none⟩)] 63 ∧ Blk w' bi [.int .i64 nx] 2 ∧ w.heap.size ≤ bi ∧ Blk w' S [.slice sao' (n + 1) scp', .map (some sat), .pointer (some ⟨F, 0, none⟩), .int .i64 smx, .int .i64 (nx + 1), .int .i64 (wr + 1)] 121 ∧ KMap ki w' sat (idx ++ [(nx, .int .i64 ((n : Nat) : Int))]) ∧ Own w' (.slice sao' (n + 1) scp') 214 3 (n + 1) (setAll (xs ++ [.int .i64 0, .int .i64 0, .slice none 0 0]) (n * 3) [.int .i64 nx, .int .i64 1, .slice ao 1 cp]) ∧ Own w' (.slice ao 1 cp) 58 4 1 [.int .i64 1, .int .i64 x, .string ByteArray.empty, .float .f64 0] ∧ (∀ b, (Value.slice ao 1 cp).ownBlock = some b → w.heap.size ≤ b) ∧ (∀ b, (Value.slice sao' (n + 1) scp').ownBlock = some b → (Value.slice sao n scp).ownBlock = some b ∨ w.heap.size ≤ b) ∧ Blk w' lg [.slice lao' (m + 1) lcp'] 126 ∧ Own w' (.slice lao' (m + 1) lcp') 1 1 (m + 1) (fns ++ [.func (.func 79) #[] #[.pointer (some ⟨br, 0, none⟩), .pointer (some ⟨bi, 0, none⟩)]]) ∧ (∀ b, (Value.slice lao' (m + 1) lcp').ownBlock = some b → (Value.slice lao m lcp).ownBlock = some b ∨ w.heap.size ≤ b) ∧ Only ([S, sat, lg] ++ (Value.slice sao n scp).ownBlock.toList ++ (Value.slice lao m lcp).ownBlock.toList) w w' := by
  refine enterL (args := [.pointer (some ⟨t, 0, none⟩), .pointer (some ⟨lg, 0, none⟩), .slice (some ⟨vb, 0, none⟩) 1 1]) Tryz.func41 rfl rfl rfl ?_
  refine CW.seq fun K1 hK1 => ?_
  refine CW.region ?_
  refine WL.box (cs := [.pointer (some ⟨t, 0, none⟩)]) rfl rfl rfl rfl ?_
  intro w2 b3 h4 u5 g6
  refine WL.box (cs := [.pointer (some ⟨lg, 0, none⟩)]) rfl rfl rfl rfl ?_
  intro w7 b8 h9 u10 g11
  refine WL.box (cs := [.slice (some ⟨vb, 0, none⟩) 1 1]) rfl rfl rfl rfl ?_
  intro w12 b13 h14 u15 g16
  refine WL.to (E' := [(3, .pointer (some ⟨b3, 0, none⟩)), (4, .pointer (some ⟨b8, 0, none⟩)), (5, .pointer (some ⟨b13, 0, none⟩)), (6, .int .i64 0), (7, .nilIface)]) 2 [3, 4, 5, 6, 7] (by kernel_rfl) ?_
  refine WL.nil ?_
  refine hK1 _ _ _ ?_
  refine CW.seq fun K17 hK17 => ?_
  refine CW.block ?_
  refine CW.seq fun K18 hK18 => ?_
  refine CW.mixed (by kernel_rfl) ?_
  intro w19 e21 u20
  have h22 := (((h4.keep u10 nm0).keep u15 nm0).keep u20 nm0)
  refine MX.load1 (L' := #[true, false, false, false, false, false]) 0 (by kernel_rfl) rfl rfl rfl agg60 rfl rfl h22 rfl ?_
  have h23 := (h14.keep u20 nm0)
  refine MX.load1 (L' := #[true, false, true, false, false, false]) 2 (by kernel_rfl) rfl rfl rfl agg38 rfl rfl h23 rfl ?_
  refine MX.loud 1 (by kernel_rfl) rfl (fun K24 hK24 => ?_) rfl
  have h25 := ((((ht.keep u5 nm0).keep u10 nm0).keep u15 nm0).keep u20 nm0)
  have h26 := ((((hs.keep u5 nm0).keep u10 nm0).keep u15 nm0).keep u20 nm0)
  refine WL.call rfl rfl rfl rfl ent70 rfl (shape_of (fs := [.string (⟨#[c]⟩), .int .i64 1]) (rest := rest) h25 h26 rfl rfl (by omega)) ?_
  rintro _ w32 ⟨ao27, cp28, rfl, h29, u30, f31⟩
  refine WL.fin (L' := #[true, true, true, false, false, false]) hK24 (stN (fun q => (q.keep u30 nm0)) (stY (by kernel_rfl) st0)) ?_
  refine MX.loud 3 (by kernel_rfl) rfl (fun K33 hK33 => ?_) rfl
  obtain ⟨g41, rest34, e35, h36, q37, q38, q39, q40⟩ := h29.open2 (by omega)
  subst e35
  have h42 := (((((hv.keep u5 nm0).keep u10 nm0).keep u15 nm0).keep u20 nm0).keep u30 nm0)
  refine WL.call rfl rfl rfl rfl ent69 rfl (check1 (c := c) hc (by omega) h36 (rest2 := []) h42) ?_
  rintro _ w44 ⟨rfl, u43⟩
  refine WL.fin (L' := #[true, true, true, true, false, false]) hK33 (stY (by kernel_rfl) (stN (fun q => (q.keep u43 nm0)) st0)) ?_
  refine MX.to (f := 0) (L' := #[true, true, true, true, true, true]) (E' := [(3, .pointer (some ⟨b3, 0, none⟩)), (4, .pointer (some ⟨b8, 0, none⟩)), (5, .pointer (some ⟨b13, 0, none⟩)), (6, .int .i64 0), (7, .nilIface), (12, .bool false)]) [4, 5] [3, 4, 5, 6, 7, 12] rfl (by kernel_rfl) ?_
  refine MX.done (by kernel_rfl) ?_
  refine hK18 _ _ _ ?_
  refine CW.condF rfl ?_
  refine CW.seq fun K45 hK45 => ?_
  refine CW.region ?_
  have h46 := ((h22.keep u30 nm0).keep u43 nm0)
  refine WL.load1 rfl agg60 rfl rfl h46 rfl ?_
  have h47 := ((h25.keep u30 nm0).keep u43 nm0)
  have h48 := ((((((hS.keep u5 nm0).keep u10 nm0).keep u15 nm0).keep u20 nm0).keep u30 nm0).keep u43 nm0)
  have h49 := ((((((hA.keep u5 nm0).keep u10 nm0).keep u15 nm0).keep u20 nm0).keep u30 nm0).keep u43 nm0)
  refine WL.call rfl rfl rfl rfl ent71 rfl (full_of h47 h48 h49) ?_
  rintro _ w51 ⟨rfl, u50⟩
  refine WL.to (E' := [(3, .pointer (some ⟨b3, 0, none⟩)), (4, .pointer (some ⟨b8, 0, none⟩)), (5, .pointer (some ⟨b13, 0, none⟩)), (6, .int .i64 0), (7, .nilIface), (19, .bool (decide (((idx.length : Nat) : Int) ≥ mx)))]) 1 [3, 4, 5, 6, 7, 19] (by kernel_rfl) ?_
  refine WL.nil ?_
  refine hK45 _ _ _ ?_
  refine CW.no rfl (decide_eq_false (by omega)) ?_
  refine CW.skip ?_
  refine hK17 _ _ _ ?_
  refine CW.seq fun K52 hK52 => ?_
  refine CW.region ?_
  have h53 := (h46.keep u50 nm0)
  refine WL.load1 rfl agg60 rfl rfl h53 rfl ?_
  have h54 := (h47.keep u50 nm0)
  refine WL.callQ (v := .pointer (some ⟨S, 0, none⟩)) rfl rfl rfl rfl ent22 rfl (rows_of h54) ?_
  refine WL.alloc (cs := [.pointer none]) rfl rfl zer63 rfl ?_
  intro w55 b56 h57 u58 g59
  refine WL.store1 rfl siz63 rfl rfl rfl h57 rfl ?_
  intro w60 h61 u62 z63
  refine WL.sub [(3, .pointer (some ⟨b3, 0, none⟩)), (4, .pointer (some ⟨b8, 0, none⟩)), (5, .pointer (some ⟨b13, 0, none⟩)), (6, .int .i64 0), (7, .nilIface), (8, .pointer (some ⟨b56, 0, none⟩))] ⟨rfl, rfl, rfl, rfl, rfl, rfl, trivial⟩ ?_
  refine WL.nil ?_
  refine hK52 _ _ _ ?_
  refine CW.seq fun K64 hK64 => ?_
  refine CW.region ?_
  refine WL.load1 rfl agg63 rfl rfl h61 rfl ?_
  have h65 := ((h48.keep u50 nm0).keep u58 nm0)
  have h66 := (h65.keep u62 (nmc (Blk.ne h65 h57 rfl) nm0))
  refine WL.callQ (v := .int .i64 nx) rfl rfl rfl rfl ent72 rfl (next_of h66) ?_
  refine WL.alloc (cs := [.int .i64 0]) rfl rfl zer2 rfl ?_
  intro w67 b68 h69 u70 g71
  refine WL.store1 rfl siz2 rfl rfl rfl h69 rfl ?_
  intro w72 h73 u74 z75
  refine WL.sub [(3, .pointer (some ⟨b3, 0, none⟩)), (4, .pointer (some ⟨b8, 0, none⟩)), (5, .pointer (some ⟨b13, 0, none⟩)), (6, .int .i64 0), (7, .nilIface), (8, .pointer (some ⟨b56, 0, none⟩)), (9, .pointer (some ⟨b68, 0, none⟩))] ⟨rfl, rfl, rfl, rfl, rfl, rfl, rfl, trivial⟩ ?_
  refine WL.nil ?_
  refine hK64 _ _ _ ?_
  refine CW.seq fun K76 hK76 => ?_
  refine CW.region ?_
  have h77 := (h53.keep u58 nm0)
  have h78 := ((h77.keep u62 (nmc (Blk.ne h77 h57 rfl) nm0)).keep u70 nm0)
  have h79 := (h78.keep u74 (nmc (Blk.ne h78 h69 rfl) nm0))
  refine WL.load1 rfl agg60 rfl rfl h79 rfl ?_
  have h80 := ((((h23.keep u30 nm0).keep u43 nm0).keep u50 nm0).keep u58 nm0)
  have h81 := ((h80.keep u62 (nmc (Blk.ne h80 h57 rfl) nm0)).keep u70 nm0)
  have h82 := (h81.keep u74 (nmc (Blk.ne h81 h69 rfl) nm0))
  refine WL.load1 rfl agg38 rfl rfl h82 rfl ?_
  refine WL.load1 rfl agg2 rfl rfl h73 rfl ?_
  have h83 := (h54.keep u58 nm0)
  have h84 := ((h83.keep u62 (nmc (Blk.ne h83 h57 rfl) nm0)).keep u70 nm0)
  have h85 := (h84.keep u74 (nmc (Blk.ne h84 h69 rfl) nm0))
  refine WL.callQ (v := .tuple #[.slice none 0 0, .nilIface]) rfl rfl rfl rfl ent73 rfl (checked_of h85) ?_
  refine WL.to (E' := [(3, .pointer (some ⟨b3, 0, none⟩)), (4, .pointer (some ⟨b8, 0, none⟩)), (5, .pointer (some ⟨b13, 0, none⟩)), (6, .int .i64 0), (7, .nilIface), (8, .pointer (some ⟨b56, 0, none⟩)), (9, .pointer (some ⟨b68, 0, none⟩)), (32, .slice none 0 0), (33, .nilIface)]) 3 [3, 4, 5, 6, 7, 8, 9, 32, 33] (by kernel_rfl) ?_
  refine WL.alloc (cs := [.slice none 0 0]) rfl rfl zer155 rfl ?_
  intro w86 b87 h88 u89 g90
  refine WL.store1 rfl siz155 rfl rfl rfl h88 rfl ?_
  intro w91 h92 u93 z94
  refine WL.to (E' := [(3, .pointer (some ⟨b3, 0, none⟩)), (4, .pointer (some ⟨b8, 0, none⟩)), (5, .pointer (some ⟨b13, 0, none⟩)), (6, .int .i64 0), (7, .nilIface), (8, .pointer (some ⟨b56, 0, none⟩)), (9, .pointer (some ⟨b68, 0, none⟩)), (10, .pointer (some ⟨b87, 0, none⟩)), (11, .nilIface)]) 1 [3, 4, 5, 6, 7, 8, 9, 10, 11] (by kernel_rfl) ?_
  refine WL.nil ?_
  refine hK76 _ _ _ ?_
  refine CW.seq fun K95 hK95 => ?_
  refine CW.seq fun K96 hK96 => ?_
  refine CW.region ?_
  refine WL.to (E' := [(3, .pointer (some ⟨b3, 0, none⟩)), (4, .pointer (some ⟨b8, 0, none⟩)), (5, .pointer (some ⟨b13, 0, none⟩)), (6, .int .i64 0), (7, .nilIface), (8, .pointer (some ⟨b56, 0, none⟩)), (9, .pointer (some ⟨b68, 0, none⟩)), (10, .pointer (some ⟨b87, 0, none⟩)), (11, .nilIface), (35, .bool false)]) 2 [3, 4, 5, 6, 7, 8, 9, 10, 11, 35] (by kernel_rfl) ?_
  refine WL.nil ?_
  refine hK96 _ _ _ ?_
  refine CW.condF rfl ?_
  refine CW.skip ?_
  refine hK95 _ _ _ ?_
  refine CW.seq fun K97 hK97 => ?_
  refine CW.region ?_
  have h98 := ((((((h9.keep u15 nm0).keep u20 nm0).keep u30 nm0).keep u43 nm0).keep u50 nm0).keep u58 nm0)
  have h99 := ((h98.keep u62 (nmc (Blk.ne h98 h57 rfl) nm0)).keep u70 nm0)
  have h100 := ((h99.keep u74 (nmc (Blk.ne h99 h69 rfl) nm0)).keep u89 nm0)
  have h101 := (h100.keep u93 (nmc (Blk.ne h100 h88 rfl) nm0))
  refine WL.load1 rfl agg70 rfl rfl h101 rfl ?_
  refine WL.to (E' := [(6, .int .i64 0), (7, .nilIface), (9, .pointer (some ⟨b68, 0, none⟩)), (11, .nilIface), (37, .pointer (some ⟨lg, 0, none⟩)), (38, .func (.func 74) #[] #[.pointer (some ⟨b3, 0, none⟩), .pointer (some ⟨b87, 0, none⟩), .pointer (some ⟨b8, 0, none⟩), .pointer (some ⟨b68, 0, none⟩), .pointer (some ⟨b56, 0, none⟩), .pointer (some ⟨b13, 0, none⟩)])]) 1 [6, 7, 9, 11, 37, 38] (by kernel_rfl) ?_
  have h102 := (h66.keep u70 nm0)
  have h103 := ((h102.keep u74 (nmc (Blk.ne h102 h69 rfl) nm0)).keep u89 nm0)
  have h104 := (h103.keep u93 (nmc (Blk.ne h103 h88 rfl) nm0))
  have h105 := ((h49.keep u50 nm0).keep u58 nm0)
  have h106 := ((h105.keep u62 (nmc (Ne.symm (Blk.neK h57 h105)) nm0)).keep u70 nm0)
  have h107 := ((h106.keep u74 (nmc (Ne.symm (Blk.neK h69 h106)) nm0)).keep u89 nm0)
  have h108 := (h107.keep u93 (nmc (Ne.symm (Blk.neK h88 h107)) nm0))
  have h109 := ((((((((hO.keep' u5 dis0).keep' u10 dis0).keep' u15 dis0).keep' u20 dis0).keep' u30 dis0).keep' u43 dis0).keep' u50 dis0).keep' u58 dis0)
  have h110 := ((h109.keep' u62 (disc (Own.ne h109 h57 rfl) dis0)).keep' u70 dis0)
  have h111 := ((h110.keep' u74 (disc (Own.ne h110 h69 rfl) dis0)).keep' u89 dis0)
  have h112 := (h111.keep' u93 (disc (Own.ne h111 h88 rfl) dis0))
  have h113 := ((((((((hF.keep u5 nm0).keep u10 nm0).keep u15 nm0).keep u20 nm0).keep u30 nm0).keep u43 nm0).keep u50 nm0).keep u58 nm0)
  have h114 := ((h113.keep u62 (nmc (Blk.ne h113 h57 rfl) nm0)).keep u70 nm0)
  have h115 := ((h114.keep u74 (nmc (Blk.ne h114 h69 rfl) nm0)).keep u89 nm0)
  have h116 := (h115.keep u93 (nmc (Blk.ne h115 h88 rfl) nm0))
  have h117 := ((((((((hl.keep u5 nm0).keep u10 nm0).keep u15 nm0).keep u20 nm0).keep u30 nm0).keep u43 nm0).keep u50 nm0).keep u58 nm0)
  have h118 := ((h117.keep u62 (nmc (Blk.ne h117 h57 rfl) nm0)).keep u70 nm0)
  have h119 := ((h118.keep u74 (nmc (Blk.ne h118 h69 rfl) nm0)).keep u89 nm0)
  have h120 := (h119.keep u93 (nmc (Blk.ne h119 h88 rfl) nm0))
  have h121 := ((((((((hlo.keep' u5 dis0).keep' u10 dis0).keep' u15 dis0).keep' u20 dis0).keep' u30 dis0).keep' u43 dis0).keep' u50 dis0).keep' u58 dis0)
  have h122 := ((h121.keep' u62 (disc (Own.ne h121 h57 rfl) dis0)).keep' u70 dis0)
  have h123 := ((h122.keep' u74 (disc (Own.ne h122 h69 rfl) dis0)).keep' u89 dis0)
  have h124 := (h123.keep' u93 (disc (Own.ne h123 h88 rfl) dis0))
  have h125 := (((h42.keep u43 nm0).keep u50 nm0).keep u58 nm0)
  have h126 := ((h125.keep u62 (nmc (Blk.ne h125 h57 rfl) nm0)).keep u70 nm0)
  have h127 := ((h126.keep u74 (nmc (Blk.ne h126 h69 rfl) nm0)).keep u89 nm0)
  have h128 := (h127.keep u93 (nmc (Blk.ne h127 h88 rfl) nm0))
  have h129 := (h85.keep u89 nm0)
  have h130 := (h129.keep u93 (nmc (Blk.ne h129 h88 rfl) nm0))
  have h131 := (h79.keep u89 nm0)
  have h132 := (h131.keep u93 (nmc (Blk.ne h131 h88 rfl) nm0))
  have h133 := (h73.keep u89 nm0)
  have h134 := (h133.keep u93 (nmc (Blk.ne h133 h88 rfl) nm0))
  have h135 := (h61.keep u70 nm0)
  have h136 := ((h135.keep u74 (nmc (Blk.ne h135 h69 rfl) nm0)).keep u89 nm0)
  have h137 := (h136.keep u93 (nmc (Blk.ne h136 h88 rfl) nm0))
  have h138 := (h82.keep u89 nm0)
  have h139 := (h138.keep u93 (nmc (Blk.ne h138 h88 rfl) nm0))
  refine WL.call rfl rfl rfl rfl ent67 rfl (do_of (S := ([S, sat, lg] ++ (.slice sao n scp : Value).ownBlock.toList ++ (.slice lao m lcp : Value).ownBlock.toList)) ent74 h120 (by intro b hb; simp only [List.mem_append, List.mem_cons, List.not_mem_nil, or_false, false_or] at hb; have := h104.lt; have := h108.lt; have := h120.lt; have := @Own.lt' _ _ _ _ _ b _ h112; have := @Own.lt' _ _ _ _ _ b _ h124; grind) (fun w1 u1 => ins1_of (h130.keep u1 nm0) (h104.keep u1 nm0) (h108.keep u1 nm0) (h112.keep' u1 dis0) (h116.keep u1 nm0) ((Own.close (k := 1) (cap := 1) (sz := 4) (xs := [.int .i64 1, .int .i64 x, .string ByteArray.empty, .float .f64 0]) (rest := []) h128 (Nat.le_refl _) (by decide) rfl rfl).keep' u1 dis0) rfl (by omega) (h120.keep u1 nm0) (h124.keep' u1 dis0) (h132.keep u1 nm0) (h92.keep u1 nm0) (h101.keep u1 nm0) (h134.keep u1 nm0) (h137.keep u1 nm0) (h139.keep u1 nm0) hnew (by omega) (by omega) (by omega) (by omega) (by omega)) (by rintro w1 v w2 ⟨rfl, _, _, _, _, _, _, _, _, _, _, _, _, _, _, _, u⟩; exact ⟨rfl, u⟩)) ?_
  rintro _ w163 ⟨rfl, w156, w157, b158, u159, ⟨_, ao140, cp141, ao142, cp143, ao144, cp145, h146, h147, h148, h149, h150, h151, h152, h153, h154, u155⟩, h160, g161, u162⟩
  refine WL.to (E' := [(6, .int .i64 0), (7, .nilIface), (9, .pointer (some ⟨b68, 0, none⟩)), (11, .nilIface)]) 1 [6, 7, 9, 11] (by kernel_rfl) ?_
  refine WL.nil ?_
  refine hK97 _ _ _ ?_
  refine CW.seq fun K164 hK164 => ?_
  refine CW.seq fun K165 hK165 => ?_
  refine CW.region ?_
  refine WL.to (E' := [(6, .int .i64 0), (7, .nilIface), (9, .pointer (some ⟨b68, 0, none⟩)), (11, .nilIface), (41, .bool false)]) 2 [6, 7, 9, 11, 41] (by kernel_rfl) ?_
  refine WL.nil ?_
  refine hK165 _ _ _ ?_
  refine CW.condF rfl ?_
  refine CW.skip ?_
  refine hK164 _ _ _ ?_
  refine CW.seq fun K166 hK166 => ?_
  refine CW.region ?_
  have h167 := (h134.keep u159 nm0)
  have h168 := (h167.keep u155 (nma (nma (nmc (Blk.ne h167 (h104.keep u159 nm0) rfl) (nmc (Blk.neK h167 (h108.keep u159 nm0)) (nmc (Blk.ne h167 (h120.keep u159 nm0) rfl) nm0))) (Own.ne (h112.keep' u159 dis0) h167 rfl)) (Own.ne (h124.keep' u159 dis0) h167 rfl)))
  have h169 := (h168.keep u162 (nmc (Blk.ne h168 h160 rfl) nm0))
  refine WL.load1 rfl agg2 rfl rfl h169 rfl ?_
  refine WL.to (E' := [(6, .int .i64 nx), (7, .nilIface)]) 2 [6, 7] (by kernel_rfl) ?_
  refine WL.nil ?_
  refine hK166 _ _ _ ?_
  have h170 := (h146.keep u162 (nmc (Blk.ne h146 h160 rfl) nm0))
  have h171 := (h147.keep u162 (nmc (Ne.symm (Blk.neK h160 h147)) nm0))
  have h172 := (h148.keep' u162 (disc (Own.ne h148 h160 rfl) dis0))
  have h173 := (h149.keep' u162 (disc (Own.ne h149 h160 rfl) dis0))
  have h174 := (h152.keep u162 (nmc (Blk.ne h152 h160 rfl) nm0))
  have h175 := (h153.keep' u162 (disc (Own.ne h153 h160 rfl) dis0))
  have h176 := (h137.keep u159 nm0)
  have h177 := (h176.keep u155 (nma (nma (nmc (Blk.ne h176 (h104.keep u159 nm0) rfl) (nmc (Blk.neK h176 (h108.keep u159 nm0)) (nmc (Blk.ne h176 (h120.keep u159 nm0) rfl) nm0))) (Own.ne (h112.keep' u159 dis0) h176 rfl)) (Own.ne (h124.keep' u159 dis0) h176 rfl)))
  have h178 := (h177.keep u162 (nmc (Blk.ne h177 h160 rfl) nm0))
  refine CW.ret fun a ha => ?_
  try simp (decide := true) only [Exit.inBlock, Exit.then, ↓reduceIte]
  exact fin ha.defers (res_tmp2 rfl ha rfl rfl _) ⟨b56, b68, _, _, _, _, _, _, rfl, h178, h169, (by have := g71; have := u5.size; have := u10.size; have := u15.size; have := u20.size; have := u30.size; have := u43.size; have := u50.size; have := u58.size; have := u62.size; omega), h170, h171, h172, h173, (fun b hb => by have := h150 b hb; have := u5.size; have := u10.size; have := u15.size; have := u20.size; have := u30.size; have := u43.size; have := u50.size; have := u58.size; have := u62.size; have := u70.size; have := u74.size; have := u89.size; have := u93.size; have := u159.size; omega), (fun b hb => (h151 b hb).imp_right (fun h => by have := u5.size; have := u10.size; have := u15.size; have := u20.size; have := u30.size; have := u43.size; have := u50.size; have := u58.size; have := u62.size; have := u70.size; have := u74.size; have := u89.size; have := u93.size; have := u159.size; omega)), h174, h175, (fun b hb => (h154 b hb).imp_right (fun h => by have := u5.size; have := u10.size; have := u15.size; have := u20.size; have := u30.size; have := u43.size; have := u50.size; have := u58.size; have := u62.size; have := u70.size; have := u74.size; have := u89.size; have := u93.size; have := u159.size; omega)), ((((((((((((((((u5.trans u10).trans u15).trans u20).trans u30).trans u43).trans u50).trans u58).trans u62).trans u70).trans u74).trans u89).trans u93).trans u159).trans u155).trans u162).sub (by intro k hk hl; simp only [Option.mem_toList, Option.mem_def, List.mem_append, List.mem_cons, List.not_mem_nil, or_false, false_or] at hk ⊢; have := u5.size; have := u10.size; have := u15.size; have := u20.size; have := u30.size; have := u43.size; have := u50.size; have := u58.size; have := u62.size; have := u70.size; have := u74.size; have := u89.size; have := u93.size; have := u159.size; have := u155.size; have := u162.size; have := g59; have := g71; have := g90; have := g161; have := h151; have := h154; grind))⟩

theorem cins2 {w : World} {t sh S cps : Nat} {h1 h2 : Value} {mx : Int} {sat F n scp : Nat} {sao : Option Addr} {smx nx wr : Int} (ht : Blk w t [.slice (some ⟨sh, 0, none⟩) 2 cps, h1, h2, .pointer (some ⟨S, 0, none⟩), .int .i64 mx, .slice none 0 0, .slice none 0 0] 116) (hS : Blk w S [.slice sao n scp, .map (some sat), .pointer (some ⟨F, 0, none⟩), .int .i64 smx, .int .i64 nx, .int .i64 wr] 121) {idx : List (Int × Value)} (hA : KMap ki w sat idx) {xs : List Value} (hO : Own w (.slice sao n scp) 214 3 n xs) {fa : Option Addr} {fc : Nat} {fb : Value} (hF : Blk w F [.slice fa 0 fc, fb] 246)  {lg : Nat} {lao : Option Addr} {m lcp : Nat} {fns : List Value} (hl : Blk w lg [.slice lao m lcp] 126) (hlo : Own w (.slice lao m lcp) 1 1 m fns) {vb : Nat} {x y : Int} {rest : List Value} (hs : Blk w sh (.string (⟨#[97]⟩) :: .int .i64 1 :: .string (⟨#[98]⟩) :: .int .i64 1 :: rest) 51) (hv : Blk w vb [.int .i64 1, .int .i64 x, .string ByteArray.empty, .float .f64 0, .int .i64 1, .int .i64 y, .string ByteArray.empty, .float .f64 0] 58) (hcp : 2 ≤ cps) (hfull : ((idx.length : Nat) : Int) < mx) (hnew : look idx nx = none) (hroom : ((idx.length : Nat) : Int) < smx) (hn : n ≤ 100000) (hw : -1000000 ≤ wr ∧ wr ≤ 1000000) (hx : -1000000 ≤ nx ∧ nx ≤ 1000000) (hm : m ≤ 100000) :
    Ret Tryz.prog 41 #[.pointer (some ⟨t, 0, none⟩), .pointer (some ⟨lg, 0, none⟩), .slice (some ⟨vb, 0, none⟩) 2 2] w fun v w' => ∃ br bi sao' scp' ao cp lao' lcp', v = .tuple #[.int .i64 nx, .nilIface] ∧ Blk w' br [.pointer (some ⟨S, 0, none⟩)] 63 ∧ Blk w' bi [.int .i64 nx] 2 ∧ w.heap.size ≤ bi ∧ Blk w' S [.slice sao' (n + 1) scp', .map (some sat), .pointer (some ⟨F, 0, none⟩), .int .i64 smx, .int .i64 (nx + 1), .int .i64 (wr + 1)] 121 ∧ KMap ki w' sat (idx ++ [(nx, .int .i64 ((n : Nat) : Int))]) ∧ Own w' (.slice sao' (n + 1) scp') 214 3 (n + 1) (setAll (xs ++ [.int .i64 0, .int .i64 0, .slice none 0 0]) (n * 3) [.int .i64 nx, .int .i64 1, .slice ao 2 cp]) ∧ Own w' (.slice ao 2 cp) 58 4 2 [.int .i64 1, .int .i64 x, .string ByteArray.empty, .float .f64 0, .int .i64 1, .int .i64 y, .string ByteArray.empty, .float .f64 0] ∧ (∀ b, (Value.slice ao 2 cp).ownBlock = some b → w.heap.size ≤ b) ∧ (∀ b, (Value.slice sao' (n + 1) scp').ownBlock = some b → (Value.slice sao n scp).ownBlock = some b ∨ w.heap.size ≤ b) ∧ Blk w' lg [.slice lao' (m + 1) lcp'] 126 ∧ Own w' (.slice lao' (m + 1) lcp') 1 1 (m + 1) (fns ++ [.func (.func 79) #[] #[.pointer (some ⟨br, 0, none⟩), .pointer (some ⟨bi, 0, none⟩)]]) ∧ (∀ b, (Value.slice lao' (m + 1) lcp').ownBlock = some b → (Value.slice lao m lcp).ownBlock = some b ∨ w.heap.size ≤ b) ∧ Only ([S, sat, lg] ++ (Value.slice sao n scp).ownBlock.toList ++ (Value.slice lao m lcp).ownBlock.toList) w w' := by
  refine enterL (args := [.pointer (some ⟨t, 0, none⟩), .pointer (some ⟨lg, 0, none⟩), .slice (some ⟨vb, 0, none⟩) 2 2]) Tryz.func41 rfl rfl rfl ?_
  refine CW.seq fun K1 hK1 => ?_
  refine CW.region ?_
  refine WL.box (cs := [.pointer (some ⟨t, 0, none⟩)]) rfl rfl rfl rfl ?_
  intro w2 b3 h4 u5 g6
  refine WL.box (cs := [.pointer (some ⟨lg, 0, none⟩)]) rfl rfl rfl rfl ?_
  intro w7 b8 h9 u10 g11
  refine WL.box (cs := [.slice (some ⟨vb, 0, none⟩) 2 2]) rfl rfl rfl rfl ?_
  intro w12 b13 h14 u15 g16
  refine WL.to (E' := [(3, .pointer (some ⟨b3, 0, none⟩)), (4, .pointer (some ⟨b8, 0, none⟩)), (5, .pointer (some ⟨b13, 0, none⟩)), (6, .int .i64 0), (7, .nilIface)]) 2 [3, 4, 5, 6, 7] (by kernel_rfl) ?_
  refine WL.nil ?_
  refine hK1 _ _ _ ?_
  refine CW.seq fun K17 hK17 => ?_
  refine CW.block ?_
  refine CW.seq fun K18 hK18 => ?_
  refine CW.mixed (by kernel_rfl) ?_
  intro w19 e21 u20
  have h22 := (((h4.keep u10 nm0).keep u15 nm0).keep u20 nm0)
  refine MX.load1 (L' := #[true, false, false, false, false, false]) 0 (by kernel_rfl) rfl rfl rfl agg60 rfl rfl h22 rfl ?_
  have h23 := (h14.keep u20 nm0)
  refine MX.load1 (L' := #[true, false, true, false, false, false]) 2 (by kernel_rfl) rfl rfl rfl agg38 rfl rfl h23 rfl ?_
  refine MX.loud 1 (by kernel_rfl) rfl (fun K24 hK24 => ?_) rfl
  have h25 := ((((ht.keep u5 nm0).keep u10 nm0).keep u15 nm0).keep u20 nm0)
  have h26 := ((((hs.keep u5 nm0).keep u10 nm0).keep u15 nm0).keep u20 nm0)
  refine WL.call rfl rfl rfl rfl ent70 rfl (shape_of (fs := [.string (⟨#[97]⟩), .int .i64 1, .string (⟨#[98]⟩), .int .i64 1]) (rest := rest) h25 h26 rfl rfl (by omega)) ?_
  rintro _ w32 ⟨ao27, cp28, rfl, h29, u30, f31⟩
  refine WL.fin (L' := #[true, true, true, false, false, false]) hK24 (stN (fun q => (q.keep u30 nm0)) (stY (by kernel_rfl) st0)) ?_
  refine MX.loud 3 (by kernel_rfl) rfl (fun K33 hK33 => ?_) rfl
  obtain ⟨g41, rest34, e35, h36, q37, q38, q39, q40⟩ := h29.open2 (by omega)
  subst e35
  have h42 := (((((hv.keep u5 nm0).keep u10 nm0).keep u15 nm0).keep u20 nm0).keep u30 nm0)
  refine WL.call rfl rfl rfl rfl ent69 rfl (check2 (by omega) h36 (rest2 := []) h42) ?_
  rintro _ w44 ⟨rfl, u43⟩
  refine WL.fin (L' := #[true, true, true, true, false, false]) hK33 (stY (by kernel_rfl) (stN (fun q => (q.keep u43 nm0)) st0)) ?_
  refine MX.to (f := 0) (L' := #[true, true, true, true, true, true]) (E' := [(3, .pointer (some ⟨b3, 0, none⟩)), (4, .pointer (some ⟨b8, 0, none⟩)), (5, .pointer (some ⟨b13, 0, none⟩)), (6, .int .i64 0), (7, .nilIface), (12, .bool false)]) [4, 5] [3, 4, 5, 6, 7, 12] rfl (by kernel_rfl) ?_
  refine MX.done (by kernel_rfl) ?_
  refine hK18 _ _ _ ?_
  refine CW.condF rfl ?_
  refine CW.seq fun K45 hK45 => ?_
  refine CW.region ?_
  have h46 := ((h22.keep u30 nm0).keep u43 nm0)
  refine WL.load1 rfl agg60 rfl rfl h46 rfl ?_
  have h47 := ((h25.keep u30 nm0).keep u43 nm0)
  have h48 := ((((((hS.keep u5 nm0).keep u10 nm0).keep u15 nm0).keep u20 nm0).keep u30 nm0).keep u43 nm0)
  have h49 := ((((((hA.keep u5 nm0).keep u10 nm0).keep u15 nm0).keep u20 nm0).keep u30 nm0).keep u43 nm0)
  refine WL.call rfl rfl rfl rfl ent71 rfl (full_of h47 h48 h49) ?_
  rintro _ w51 ⟨rfl, u50⟩
  refine WL.to (E' := [(3, .pointer (some ⟨b3, 0, none⟩)), (4, .pointer (some ⟨b8, 0, none⟩)), (5, .pointer (some ⟨b13, 0, none⟩)), (6, .int .i64 0), (7, .nilIface), (19, .bool (decide (((idx.length : Nat) : Int) ≥ mx)))]) 1 [3, 4, 5, 6, 7, 19] (by kernel_rfl) ?_
  refine WL.nil ?_
  refine hK45 _ _ _ ?_
  refine CW.no rfl (decide_eq_false (by omega)) ?_
  refine CW.skip ?_
  refine hK17 _ _ _ ?_
  refine CW.seq fun K52 hK52 => ?_
  refine CW.region ?_
  have h53 := (h46.keep u50 nm0)
  refine WL.load1 rfl agg60 rfl rfl h53 rfl ?_
  have h54 := (h47.keep u50 nm0)
  refine WL.callQ (v := .pointer (some ⟨S, 0, none⟩)) rfl rfl rfl rfl ent22 rfl (rows_of h54) ?_
  refine WL.alloc (cs := [.pointer none]) rfl rfl zer63 rfl ?_
  intro w55 b56 h57 u58 g59
  refine WL.store1 rfl siz63 rfl rfl rfl h57 rfl ?_
  intro w60 h61 u62 z63
  refine WL.sub [(3, .pointer (some ⟨b3, 0, none⟩)), (4, .pointer (some ⟨b8, 0, none⟩)), (5, .pointer (some ⟨b13, 0, none⟩)), (6, .int .i64 0), (7, .nilIface), (8, .pointer (some ⟨b56, 0, none⟩))] ⟨rfl, rfl, rfl, rfl, rfl, rfl, trivial⟩ ?_
  refine WL.nil ?_
  refine hK52 _ _ _ ?_
  refine CW.seq fun K64 hK64 => ?_
  refine CW.region ?_
  refine WL.load1 rfl agg63 rfl rfl h61 rfl ?_
  have h65 := ((h48.keep u50 nm0).keep u58 nm0)
  have h66 := (h65.keep u62 (nmc (Blk.ne h65 h57 rfl) nm0))
  refine WL.callQ (v := .int .i64 nx) rfl rfl rfl rfl ent72 rfl (next_of h66) ?_
  refine WL.alloc (cs := [.int .i64 0]) rfl rfl zer2 rfl ?_
  intro w67 b68 h69 u70 g71
  refine WL.store1 rfl siz2 rfl rfl rfl h69 rfl ?_
  intro w72 h73 u74 z75
  refine WL.sub [(3, .pointer (some ⟨b3, 0, none⟩)), (4, .pointer (some ⟨b8, 0, none⟩)), (5, .pointer (some ⟨b13, 0, none⟩)), (6, .int .i64 0), (7, .nilIface), (8, .pointer (some ⟨b56, 0, none⟩)), (9, .pointer (some ⟨b68, 0, none⟩))] ⟨rfl, rfl, rfl, rfl, rfl, rfl, rfl, trivial⟩ ?_
  refine WL.nil ?_
  refine hK64 _ _ _ ?_
  refine CW.seq fun K76 hK76 => ?_
  refine CW.region ?_
  have h77 := (h53.keep u58 nm0)
  have h78 := ((h77.keep u62 (nmc (Blk.ne h77 h57 rfl) nm0)).keep u70 nm0)
  have h79 := (h78.keep u74 (nmc (Blk.ne h78 h69 rfl) nm0))
  refine WL.load1 rfl agg60 rfl rfl h79 rfl ?_
  have h80 := ((((h23.keep u30 nm0).keep u43 nm0).keep u50 nm0).keep u58 nm0)
  have h81 := ((h80.keep u62 (nmc (Blk.ne h80 h57 rfl) nm0)).keep u70 nm0)
  have h82 := (h81.keep u74 (nmc (Blk.ne h81 h69 rfl) nm0))
  refine WL.load1 rfl agg38 rfl rfl h82 rfl ?_
  refine WL.load1 rfl agg2 rfl rfl h73 rfl ?_
  have h83 := (h54.keep u58 nm0)
  have h84 := ((h83.keep u62 (nmc (Blk.ne h83 h57 rfl) nm0)).keep u70 nm0)
  have h85 := (h84.keep u74 (nmc (Blk.ne h84 h69 rfl) nm0))
  refine WL.callQ (v := .tuple #[.slice none 0 0, .nilIface]) rfl rfl rfl rfl ent73 rfl (checked_of h85) ?_
  refine WL.to (E' := [(3, .pointer (some ⟨b3, 0, none⟩)), (4, .pointer (some ⟨b8, 0, none⟩)), (5, .pointer (some ⟨b13, 0, none⟩)), (6, .int .i64 0), (7, .nilIface), (8, .pointer (some ⟨b56, 0, none⟩)), (9, .pointer (some ⟨b68, 0, none⟩)), (32, .slice none 0 0), (33, .nilIface)]) 3 [3, 4, 5, 6, 7, 8, 9, 32, 33] (by kernel_rfl) ?_
  refine WL.alloc (cs := [.slice none 0 0]) rfl rfl zer155 rfl ?_
  intro w86 b87 h88 u89 g90
  refine WL.store1 rfl siz155 rfl rfl rfl h88 rfl ?_
  intro w91 h92 u93 z94
  refine WL.to (E' := [(3, .pointer (some ⟨b3, 0, none⟩)), (4, .pointer (some ⟨b8, 0, none⟩)), (5, .pointer (some ⟨b13, 0, none⟩)), (6, .int .i64 0), (7, .nilIface), (8, .pointer (some ⟨b56, 0, none⟩)), (9, .pointer (some ⟨b68, 0, none⟩)), (10, .pointer (some ⟨b87, 0, none⟩)), (11, .nilIface)]) 1 [3, 4, 5, 6, 7, 8, 9, 10, 11] (by kernel_rfl) ?_
  refine WL.nil ?_
  refine hK76 _ _ _ ?_
  refine CW.seq fun K95 hK95 => ?_
  refine CW.seq fun K96 hK96 => ?_
  refine CW.region ?_
  refine WL.to (E' := [(3, .pointer (some ⟨b3, 0, none⟩)), (4, .pointer (some ⟨b8, 0, none⟩)), (5, .pointer (some ⟨b13, 0, none⟩)), (6, .int .i64 0), (7, .nilIface), (8, .pointer (some ⟨b56, 0, none⟩)), (9, .pointer (some ⟨b68, 0, none⟩)), (10, .pointer (some ⟨b87, 0, none⟩)), (11, .nilIface), (35, .bool false)]) 2 [3, 4, 5, 6, 7, 8, 9, 10, 11, 35] (by kernel_rfl) ?_
  refine WL.nil ?_
  refine hK96 _ _ _ ?_
  refine CW.condF rfl ?_
  refine CW.skip ?_
  refine hK95 _ _ _ ?_
  refine CW.seq fun K97 hK97 => ?_
  refine CW.region ?_
  have h98 := ((((((h9.keep u15 nm0).keep u20 nm0).keep u30 nm0).keep u43 nm0).keep u50 nm0).keep u58 nm0)
  have h99 := ((h98.keep u62 (nmc (Blk.ne h98 h57 rfl) nm0)).keep u70 nm0)
  have h100 := ((h99.keep u74 (nmc (Blk.ne h99 h69 rfl) nm0)).keep u89 nm0)
  have h101 := (h100.keep u93 (nmc (Blk.ne h100 h88 rfl) nm0))
  refine WL.load1 rfl agg70 rfl rfl h101 rfl ?_
  refine WL.to (E' := [(6, .int .i64 0), (7, .nilIface), (9, .pointer (some ⟨b68, 0, none⟩)), (11, .nilIface), (37, .pointer (some ⟨lg, 0, none⟩)), (38, .func (.func 74) #[] #[.pointer (some ⟨b3, 0, none⟩), .pointer (some ⟨b87, 0, none⟩), .pointer (some ⟨b8, 0, none⟩), .pointer (some ⟨b68, 0, none⟩), .pointer (some ⟨b56, 0, none⟩), .pointer (some ⟨b13, 0, none⟩)])]) 1 [6, 7, 9, 11, 37, 38] (by kernel_rfl) ?_
  have h102 := (h66.keep u70 nm0)
  have h103 := ((h102.keep u74 (nmc (Blk.ne h102 h69 rfl) nm0)).keep u89 nm0)
  have h104 := (h103.keep u93 (nmc (Blk.ne h103 h88 rfl) nm0))
  have h105 := ((h49.keep u50 nm0).keep u58 nm0)
  have h106 := ((h105.keep u62 (nmc (Ne.symm (Blk.neK h57 h105)) nm0)).keep u70 nm0)
  have h107 := ((h106.keep u74 (nmc (Ne.symm (Blk.neK h69 h106)) nm0)).keep u89 nm0)
  have h108 := (h107.keep u93 (nmc (Ne.symm (Blk.neK h88 h107)) nm0))
  have h109 := ((((((((hO.keep' u5 dis0).keep' u10 dis0).keep' u15 dis0).keep' u20 dis0).keep' u30 dis0).keep' u43 dis0).keep' u50 dis0).keep' u58 dis0)
  have h110 := ((h109.keep' u62 (disc (Own.ne h109 h57 rfl) dis0)).keep' u70 dis0)
  have h111 := ((h110.keep' u74 (disc (Own.ne h110 h69 rfl) dis0)).keep' u89 dis0)
  have h112 := (h111.keep' u93 (disc (Own.ne h111 h88 rfl) dis0))
  have h113 := ((((((((hF.keep u5 nm0).keep u10 nm0).keep u15 nm0).keep u20 nm0).keep u30 nm0).keep u43 nm0).keep u50 nm0).keep u58 nm0)
  have h114 := ((h113.keep u62 (nmc (Blk.ne h113 h57 rfl) nm0)).keep u70 nm0)
  have h115 := ((h114.keep u74 (nmc (Blk.ne h114 h69 rfl) nm0)).keep u89 nm0)
  have h116 := (h115.keep u93 (nmc (Blk.ne h115 h88 rfl) nm0))
  have h117 := ((((((((hl.keep u5 nm0).keep u10 nm0).keep u15 nm0).keep u20 nm0).keep u30 nm0).keep u43 nm0).keep u50 nm0).keep u58 nm0)
  have h118 := ((h117.keep u62 (nmc (Blk.ne h117 h57 rfl) nm0)).keep u70 nm0)
  have h119 := ((h118.keep u74 (nmc (Blk.ne h118 h69 rfl) nm0)).keep u89 nm0)
  have h120 := (h119.keep u93 (nmc (Blk.ne h119 h88 rfl) nm0))
  have h121 := ((((((((hlo.keep' u5 dis0).keep' u10 dis0).keep' u15 dis0).keep' u20 dis0).keep' u30 dis0).keep' u43 dis0).keep' u50 dis0).keep' u58 dis0)
  have h122 := ((h121.keep' u62 (disc (Own.ne h121 h57 rfl) dis0)).keep' u70 dis0)
  have h123 := ((h122.keep' u74 (disc (Own.ne h122 h69 rfl) dis0)).keep' u89 dis0)
  have h124 := (h123.keep' u93 (disc (Own.ne h123 h88 rfl) dis0))
  have h125 := (((h42.keep u43 nm0).keep u50 nm0).keep u58 nm0)
  have h126 := ((h125.keep u62 (nmc (Blk.ne h125 h57 rfl) nm0)).keep u70 nm0)
  have h127 := ((h126.keep u74 (nmc (Blk.ne h126 h69 rfl) nm0)).keep u89 nm0)
  have h128 := (h127.keep u93 (nmc (Blk.ne h127 h88 rfl) nm0))
  have h129 := (h85.keep u89 nm0)
  have h130 := (h129.keep u93 (nmc (Blk.ne h129 h88 rfl) nm0))
  have h131 := (h79.keep u89 nm0)
  have h132 := (h131.keep u93 (nmc (Blk.ne h131 h88 rfl) nm0))
  have h133 := (h73.keep u89 nm0)
  have h134 := (h133.keep u93 (nmc (Blk.ne h133 h88 rfl) nm0))
  have h135 := (h61.keep u70 nm0)
  have h136 := ((h135.keep u74 (nmc (Blk.ne h135 h69 rfl) nm0)).keep u89 nm0)
  have h137 := (h136.keep u93 (nmc (Blk.ne h136 h88 rfl) nm0))
  have h138 := (h82.keep u89 nm0)
  have h139 := (h138.keep u93 (nmc (Blk.ne h138 h88 rfl) nm0))
  refine WL.call rfl rfl rfl rfl ent67 rfl (do_of (S := ([S, sat, lg] ++ (.slice sao n scp : Value).ownBlock.toList ++ (.slice lao m lcp : Value).ownBlock.toList)) ent74 h120 (by intro b hb; simp only [List.mem_append, List.mem_cons, List.not_mem_nil, or_false, false_or] at hb; have := h104.lt; have := h108.lt; have := h120.lt; have := @Own.lt' _ _ _ _ _ b _ h112; have := @Own.lt' _ _ _ _ _ b _ h124; grind) (fun w1 u1 => ins1_of (h130.keep u1 nm0) (h104.keep u1 nm0) (h108.keep u1 nm0) (h112.keep' u1 dis0) (h116.keep u1 nm0) ((Own.close (k := 2) (cap := 2) (sz := 4) (xs := [.int .i64 1, .int .i64 x, .string ByteArray.empty, .float .f64 0, .int .i64 1, .int .i64 y, .string ByteArray.empty, .float .f64 0]) (rest := []) h128 (Nat.le_refl _) (by decide) rfl rfl).keep' u1 dis0) rfl (by omega) (h120.keep u1 nm0) (h124.keep' u1 dis0) (h132.keep u1 nm0) (h92.keep u1 nm0) (h101.keep u1 nm0) (h134.keep u1 nm0) (h137.keep u1 nm0) (h139.keep u1 nm0) hnew (by omega) (by omega) (by omega) (by omega) (by omega)) (by rintro w1 v w2 ⟨rfl, _, _, _, _, _, _, _, _, _, _, _, _, _, _, _, u⟩; exact ⟨rfl, u⟩)) ?_
  rintro _ w163 ⟨rfl, w156, w157, b158, u159, ⟨_, ao140, cp141, ao142, cp143, ao144, cp145, h146, h147, h148, h149, h150, h151, h152, h153, h154, u155⟩, h160, g161, u162⟩
  refine WL.to (E' := [(6, .int .i64 0), (7, .nilIface), (9, .pointer (some ⟨b68, 0, none⟩)), (11, .nilIface)]) 1 [6, 7, 9, 11] (by kernel_rfl) ?_
  refine WL.nil ?_
  refine hK97 _ _ _ ?_
  refine CW.seq fun K164 hK164 => ?_
  refine CW.seq fun K165 hK165 => ?_
  refine CW.region ?_
  refine WL.to (E' := [(6, .int .i64 0), (7, .nilIface), (9, .pointer (some ⟨b68, 0, none⟩)), (11, .nilIface), (41, .bool false)]) 2 [6, 7, 9, 11, 41] (by kernel_rfl) ?_
  refine WL.nil ?_
  refine hK165 _ _ _ ?_
  refine CW.condF rfl ?_
  refine CW.skip ?_
  refine hK164 _ _ _ ?_
  refine CW.seq fun K166 hK166 => ?_
  refine CW.region ?_
  have h167 := (h134.keep u159 nm0)
  have h168 := (h167.keep u155 (nma (nma (nmc (Blk.ne h167 (h104.keep u159 nm0) rfl) (nmc (Blk.neK h167 (h108.keep u159 nm0)) (nmc (Blk.ne h167 (h120.keep u159 nm0) rfl) nm0))) (Own.ne (h112.keep' u159 dis0) h167 rfl)) (Own.ne (h124.keep' u159 dis0) h167 rfl)))
  have h169 := (h168.keep u162 (nmc (Blk.ne h168 h160 rfl) nm0))
  refine WL.load1 rfl agg2 rfl rfl h169 rfl ?_
  refine WL.to (E' := [(6, .int .i64 nx), (7, .nilIface)]) 2 [6, 7] (by kernel_rfl) ?_
  refine WL.nil ?_
  refine hK166 _ _ _ ?_
  have h170 := (h146.keep u162 (nmc (Blk.ne h146 h160 rfl) nm0))
  have h171 := (h147.keep u162 (nmc (Ne.symm (Blk.neK h160 h147)) nm0))
  have h172 := (h148.keep' u162 (disc (Own.ne h148 h160 rfl) dis0))
  have h173 := (h149.keep' u162 (disc (Own.ne h149 h160 rfl) dis0))
  have h174 := (h152.keep u162 (nmc (Blk.ne h152 h160 rfl) nm0))
  have h175 := (h153.keep' u162 (disc (Own.ne h153 h160 rfl) dis0))
  have h176 := (h137.keep u159 nm0)
  have h177 := (h176.keep u155 (nma (nma (nmc (Blk.ne h176 (h104.keep u159 nm0) rfl) (nmc (Blk.neK h176 (h108.keep u159 nm0)) (nmc (Blk.ne h176 (h120.keep u159 nm0) rfl) nm0))) (Own.ne (h112.keep' u159 dis0) h176 rfl)) (Own.ne (h124.keep' u159 dis0) h176 rfl)))
  have h178 := (h177.keep u162 (nmc (Blk.ne h177 h160 rfl) nm0))
  refine CW.ret fun a ha => ?_
  try simp (decide := true) only [Exit.inBlock, Exit.then, ↓reduceIte]
  exact fin ha.defers (res_tmp2 rfl ha rfl rfl _) ⟨b56, b68, _, _, _, _, _, _, rfl, h178, h169, (by have := g71; have := u5.size; have := u10.size; have := u15.size; have := u20.size; have := u30.size; have := u43.size; have := u50.size; have := u58.size; have := u62.size; omega), h170, h171, h172, h173, (fun b hb => by have := h150 b hb; have := u5.size; have := u10.size; have := u15.size; have := u20.size; have := u30.size; have := u43.size; have := u50.size; have := u58.size; have := u62.size; have := u70.size; have := u74.size; have := u89.size; have := u93.size; have := u159.size; omega), (fun b hb => (h151 b hb).imp_right (fun h => by have := u5.size; have := u10.size; have := u15.size; have := u20.size; have := u30.size; have := u43.size; have := u50.size; have := u58.size; have := u62.size; have := u70.size; have := u74.size; have := u89.size; have := u93.size; have := u159.size; omega)), h174, h175, (fun b hb => (h154 b hb).imp_right (fun h => by have := u5.size; have := u10.size; have := u15.size; have := u20.size; have := u30.size; have := u43.size; have := u50.size; have := u58.size; have := u62.size; have := u70.size; have := u74.size; have := u89.size; have := u93.size; have := u159.size; omega)), ((((((((((((((((u5.trans u10).trans u15).trans u20).trans u30).trans u43).trans u50).trans u58).trans u62).trans u70).trans u74).trans u89).trans u93).trans u159).trans u155).trans u162).sub (by intro k hk hl; simp only [Option.mem_toList, Option.mem_def, List.mem_append, List.mem_cons, List.not_mem_nil, or_false, false_or] at hk ⊢; have := u5.size; have := u10.size; have := u15.size; have := u20.size; have := u30.size; have := u43.size; have := u50.size; have := u58.size; have := u62.size; have := u70.size; have := u74.size; have := u89.size; have := u93.size; have := u159.size; have := u155.size; have := u162.size; have := g59; have := g71; have := g90; have := g161; have := h151; have := h154; grind))⟩
end Go.K

