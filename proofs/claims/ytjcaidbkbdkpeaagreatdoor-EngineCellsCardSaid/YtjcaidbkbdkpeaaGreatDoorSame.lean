/- Two rows of cells are the same; all cells of a stack. -/
import Derived.Test.YtjcaidbkbdkpeaaGreatDoorEngB
namespace Go.Proofs.YtjcaidbkbdkpeaaGreatDoor
open Go Go.RowKit Go.Rh

set_option maxHeartbeats 400000 in
theorem stack_All_row (w : World) (o : Owner) (t p : Nat) (L : List Int) (hs : StackAt w o t p L) (hwf : Wf w o) (t' : Nat) :
    Calls Tryz.prog 17 #[.pointer (some ⟨p, 0, none⟩)] w fun e w' => ∃ v o', e = .returned v ∧ Mod (fun _ => False) w o w' o' ∧ Row w' o' t' 27 1 v L.length (L.map cv) := by
  obtain ⟨h0, h1, h2, v, hb, hr⟩ := hs
  obtain ⟨a, c, rfl, hcap⟩ := hr.len
  have c0 := hb.c 0 _ rfl
  go_enter Tryz.func17, Tryz.ntmps17
  go_wp2_with fail
  refine (clone_cells w o hwf _ _ L t hr.rd (by omega) t').mono ?_
  rintro e w1 ⟨v', o1, rfl, hr1, hm1, hfr⟩
  go_wp2
  go_ret
  exact ⟨_, o1, rfl, hm1, hr1⟩

theorem addr_add0 (b j : Nat) : (⟨b, 0, none⟩ : Addr).add j = ⟨b, j, none⟩ := by
  unfold Addr.add; split
  · next h0 => rw [h0]
  · simp

/-- Where a row that is not empty lies. -/
theorem row_at0 {w : World} {o : Owner} {t : Nat} {e : TypeId} {size : Nat} {v : Value} {n : Nat} {xs : List Value} (h : Row w o t e size v n xs) (hn : 0 < n) : ∃ b c, v = .slice (some ⟨b, 0, none⟩) n c ∧ b < w.heap.size ∧ ∀ j u, xs[j]? = some u → w.cell? ⟨b, j, none⟩ = some u := by
  rcases h.1.2 with ⟨h1, h2⟩ | ⟨g', cap, cur, h1, _, hg, _⟩
  · omega
  · refine ⟨g', cap, h1, (Array.getElem?_eq_some_iff.1 hg).1, fun j u hu => ?_⟩
    have := h.cells h1 j u hu
    rwa [addr_add0] at this

set_option maxHeartbeats 1000000 in
theorem ref_Same (w : World) (o : Owner) (hwf : Wf w o) (va vb : Value) (ta tb : Nat) (xs : List Int) (hlen : xs.length ≤ 1000) (ha : Row w o ta 27 1 va xs.length (xs.map cv)) (hb : Row w o tb 27 1 vb xs.length (xs.map cv)) :
    Calls Tryz.prog 14 #[va, vb] w fun e w' => e = .returned (.bool true) ∧ Mod (fun _ => False) w o w' o := by
  obtain ⟨n, hn⟩ : ∃ n, n = xs.length := ⟨_, rfl⟩
  rw [← hn] at ha hb hlen
  have hn' := Lib.hid hn
  clear hn
  rcases Nat.eq_zero_or_pos n with h0 | h0
  · obtain ⟨aa, ca, rfl, _⟩ := ha.len
    obtain ⟨ab, cb, rfl, _⟩ := hb.len
    subst h0
    clear ha hb
    go_enter Tryz.func14, Tryz.ntmps14
    go_wp2
    go_loopw [5] (fun v wr => v = .int .i64 0 ∧ wr = w) (fun _ _ => 0)
    case atStart => exact ⟨rfl, rfl⟩
    case round =>
      obtain ⟨rfl, rfl⟩ := hrel
      go_wp2
      go_ret
      exact ⟨rfl, Mod.refl _ hwf⟩
  · obtain ⟨ba, ca, rfl, hla, hca⟩ := row_at0 ha h0
    obtain ⟨bb, cb, rfl, hlb, hcb⟩ := row_at0 hb h0
    have hca' := Lib.hid hca
    have hcb' := Lib.hid hcb
    clear ha hb hca hcb
    go_enter Tryz.func14, Tryz.ntmps14
    go_wp2
    go_loopw [5] (fun v wr => ∃ k : Nat, k ≤ n ∧ v = .int .i64 k ∧ Mod (fun _ => False) w o wr o) (fun v _ => n - (intOf v).toNat)
    case atStart => exact ⟨0, Nat.zero_le _, rfl, Mod.refl _ hwf⟩
    case round =>
      obtain ⟨k, hk, rfl, hm⟩ := hrel
      by_cases hlt : k < n
      · obtain ⟨x, hx⟩ : ∃ x, xs[k]? = some x := ⟨_, List.getElem?_eq_getElem (by have := hn'.out; omega)⟩
        have c0 : wr.cell? ⟨ba, k, none⟩ = some (cv x) := by rw [hm.cells ba k hla]; exact hca'.out k _ (by rw [List.getElem?_map, hx]; rfl)
        have c1 : wr.cell? ⟨bb, k, none⟩ = some (cv x) := by rw [hm.cells bb k hlb]; exact hcb'.out k _ (by rw [List.getElem?_map, hx]; rfl)
        clear hx
        go_wp2_with fail
        go_quiet (fail)
        go_wp2
        go_roundw
        case rel => exact ⟨k + 1, by omega, by go_num, hm.drewN _⟩
        case measure => simp [intOf]; omega
      · go_wp2
        go_ret
        exact ⟨rfl, hm⟩
end Go.Proofs.YtjcaidbkbdkpeaaGreatDoor
