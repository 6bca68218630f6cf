/- The frames and their places, the uppermost first: the iterator. -/
import Derived.Test.YtjcaidbkbdkpeaaGreatDoorFrameB
import Derived.RangeFuncNested
import Derived.RangeFuncBound
import Derived.RangeFuncCalls
import Derived.RangeFuncLeaves
import Derived.RangeFuncBox
import Derived.Shelf.Abstract
import Derived.Shelf.RegionOpen
import Derived.OwnWalkIn
import Derived.TacticsInMore
import Derived.LoopNIn
import Derived.LoopIn
namespace Go.Proofs.YtjcaidbkbdkpeaaGreatDoor
open Go Go.RowKit Go.Rh Go.Shelf
attribute [local go_sem] Oper.semAt_some

/-- The first k places of n, from the uppermost down. -/
def downs (n : Nat) : (k : Nat) → k ≤ n → List (Fin n)
  | 0, _ => []
  | k + 1, h => downs n k (by omega) ++ [⟨n - 1 - k, by omega⟩]

theorem downs_length (n : Nat) : ∀ k h, (downs n k h).length = k
  | 0, _ => rfl
  | k + 1, h => by simp [downs, downs_length n k]

abbrev encD (g : Nat) {n : Nat} (i : Fin n) : Array Value := #[.int .i64 (i.val : Int), .pointer (some ⟨g, i.val * 6, none⟩)]

set_option maxRecDepth 100000 in
set_option maxHeartbeats 2000000 in
theorem down1_in (m l Bf n₀ p g len cap : Nat) (hlen : len ≤ 128) (hp : p < n₀) (J Jx : List (Fin len) → World → Prop)
    (hY : ∀ pre x W, J pre W → pre.length < len → YieldAt Fence.wide m Tryz.prog l (encD g x) W fun e W' =>
      (e = .returned (.bool true) ∧ J (pre ++ [x]) W' ∧ Below n₀ W W') ∨ (e = .returned (.bool false) ∧ Jx (pre ++ [x]) W'))
    (W : World) (hB : Bf < n₀) (hBf : W.cell? ⟨Bf, 0, none⟩ = some (.pointer (some ⟨p, 0, none⟩))) (hc : W.cell? ⟨p, 0, none⟩ = some (.slice (some ⟨g, 0, none⟩) len cap)) (h0 : J [] W) :
    CallsIn Fence.wide (m + 1) Tryz.prog 138 #[.func (.yield l) #[] #[], .pointer (some ⟨Bf, 0, none⟩)] W fun e W' => (∃ v, e = .returned v) ∧
      ((∃ ys, ys = downs len len (Nat.le_refl _) ∧ J ys W') ∨ (∃ pre, (∃ k, ∃ hk : k ≤ len, pre = downs len k hk) ∧ Jx pre W')) := by
  refine callsIn_of_wp Tryz.func138 rfl trivial ?_ rfl
  simp only [Tryz.ntmps138, List.size_toArray, List.length_cons, List.length_nil, Nat.reduceAdd, Nat.reduceSub, Array.replicate_succ, Array.replicate_zero, List.push_toArray, List.append_toArray, List.nil_append, List.cons_append]
  gi_wp2_with (refine ⟨trivial, ?_⟩; gi_at_call 19; refine callsIn_wide.2 ((frames_Depth_raw _ p len cap _ hc).mono ?_); rintro e w' ⟨rfl, rfl⟩)
  gi_loopw [3] (fun i wr => ∃ (k : Nat) (hk : k ≤ len), i = .int .i64 ((len : Int) - 1 - k) ∧ J (downs len k hk) wr ∧ Below n₀ W wr)
    (fun i _ => (intOf i + 1).toNat)
  case atStart => exact ⟨0, Nat.zero_le _, by simp, h0, Below.refl _ _⟩
  case round =>
    obtain ⟨k, hk, rfl, hJs, hnx⟩ := hrel
    have c1 := (hnx.cell (p := ⟨Bf, 0, none⟩) hB).trans hBf
    have c2 := (hnx.cell (p := ⟨p, 0, none⟩) hp).trans hc
    by_cases hlt : k < len
    · obtain ⟨q, hq⟩ : ∃ q : Nat, q = len - 1 - k := ⟨_, rfl⟩
      have hq2 : (len : Int) - 1 - k = (q : Int) := by omega
      rw [hq2]
      have hq3 : q < len := by omega
      obtain ⟨fn, tmps, assign, body, hy, hR⟩ := hY _ ⟨q, hq3⟩ wr hJs (by rw [downs_length]; exact hlt)
      dsimp only [encD] at hy
      have hq4 : Hid (downs len k hk ++ [⟨q, hq3⟩] = downs len (k + 1) hlt) := by subst hq; rfl
      have hq5 := Lib.hid hq; clear hq
      have hq6 := Lib.hid hq2; clear hq2
      gi_wp2
      refine hR.mono ?_
      rintro e W3 (⟨rfl, hJ3, hk3⟩ | ⟨rfl, hJx3⟩)
      · gi_wp2
        go_roundw
        case rel => exact ⟨k + 1, hlt, congrArg (Value.int .i64) (by have := hq6.out; omega), by rw [← hq4.out]; exact hJ3, hnx.trans hk3⟩
        case measure => simp [intOf]
      · gi_wp2
        refine bodyPost_ret (results_none rfl _ _ _) rfl ?_
        exact ⟨⟨_, rfl⟩, .inr ⟨_, ⟨k + 1, hlt, hq4.out⟩, hJx3⟩⟩
    · have hkl : k = len := by omega
      subst hkl
      gi_wp2
      go_end0
      exact ⟨⟨_, rfl⟩, .inl ⟨_, rfl, hJs⟩⟩

set_option maxRecDepth 100000 in
set_option maxHeartbeats 1000000 in
/-- .. of no frame, the slice nil. -/
theorem down1_nil (m l Bf p c : Nat) (a : Option Addr) (J : World → Prop)
    (W : World) (hBf : W.cell? ⟨Bf, 0, none⟩ = some (.pointer (some ⟨p, 0, none⟩))) (hc : W.cell? ⟨p, 0, none⟩ = some (.slice a 0 c)) (h0 : J W) :
    CallsIn Fence.wide (m + 1) Tryz.prog 138 #[.func (.yield l) #[] #[], .pointer (some ⟨Bf, 0, none⟩)] W fun e W' => (∃ v, e = .returned v) ∧ J W' := by
  refine callsIn_of_wp Tryz.func138 rfl trivial ?_ rfl
  simp only [Tryz.ntmps138, List.size_toArray, List.length_cons, List.length_nil, Nat.reduceAdd, Nat.reduceSub, Array.replicate_succ, Array.replicate_zero, List.push_toArray, List.append_toArray, List.nil_append, List.cons_append]
  gi_wp2_with (refine ⟨trivial, ?_⟩; gi_at_call 19; refine callsIn_wide.2 ((frames_Depth_raw _ p 0 c _ hc).mono ?_); rintro e w' ⟨rfl, rfl⟩)
  gi_loopw [3] (fun i wr => i = .int .i64 (-1) ∧ J wr) (fun _ _ => 0)
  case atStart => exact ⟨rfl, h0⟩
  case round =>
    obtain ⟨rfl, hJs⟩ := hrel
    gi_wp2
    go_end0
    exact ⟨⟨_, rfl⟩, hJs⟩

set_option maxHeartbeats 400000 in
theorem frames_down (w : World) (p : Nat) :
    Calls Tryz.prog 106 #[.pointer (some ⟨p, 0, none⟩)] w fun e w' => e = .returned (.func (.func 138) #[] #[.pointer (some ⟨w.heap.size, 0, none⟩)]) ∧ w.alloc (.cells #[.pointer (some ⟨p, 0, none⟩)] 50) = w' := by
  go_enter Tryz.func106, Tryz.ntmps106
  go_wp2
  go_ret
  exact ⟨rfl, rfl⟩

/-- The iterator's contract: all places, or the first of them, the uppermost first. -/
theorem down_stops (m Bf p g len cap : Nat) (hlen : len ≤ 128) (w : World) (hB : Bf < w.heap.size) (hp : p < w.heap.size)
    (hBf : w.cell? ⟨Bf, 0, none⟩ = some (.pointer (some ⟨p, 0, none⟩))) (hc : w.cell? ⟨p, 0, none⟩ = some (.slice (some ⟨g, 0, none⟩) len cap)) :
    SeqStopsK Fence.wide (m + 1) Tryz.prog 138 #[.pointer (some ⟨Bf, 0, none⟩)] (encD g (n := len)) (Below w.heap.size) (fun ys => ys = downs len len (Nat.le_refl _))
      (fun pre => ∃ k, ∃ hk : k ≤ len, pre = downs len k hk) len w := fun l J Jx W hW _ _ hY h0 =>
  down1_in m l Bf w.heap.size p g len cap hlen hp J Jx hY W hB ((hW.cell (p := ⟨Bf, 0, none⟩) hB).trans hBf) ((hW.cell (p := ⟨p, 0, none⟩) hp).trans hc) h0

theorem down_stops_none (m Bf p c : Nat) (a : Option Addr) (w : World) (hB : Bf < w.heap.size) (hp : p < w.heap.size)
    (hBf : w.cell? ⟨Bf, 0, none⟩ = some (.pointer (some ⟨p, 0, none⟩))) (hc : w.cell? ⟨p, 0, none⟩ = some (.slice a 0 c)) :
    SeqStopsK Fence.wide (m + 1) Tryz.prog 138 #[.pointer (some ⟨Bf, 0, none⟩)] (fun _ : Fin 0 => #[]) (Below w.heap.size) (fun ys => ys = []) (fun _ => True) 0 w := fun l J _ W hW _ _ _ h0 =>
  (down1_nil m l Bf p c a (J []) W ((hW.cell (p := ⟨Bf, 0, none⟩) hB).trans hBf) ((hW.cell (p := ⟨p, 0, none⟩) hp).trans hc) h0).mono fun e W' ⟨he, hj⟩ => ⟨he, .inl ⟨_, rfl, hj⟩⟩

end Go.Proofs.YtjcaidbkbdkpeaaGreatDoor
