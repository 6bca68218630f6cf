/- The document's names. -/
import Derived.Test.YtjcaidbkbdkpeaaGreatDoorEng
import Derived.Great.BuildSlice
namespace Go.Proofs.YtjcaidbkbdkpeaaGreatDoor
open Go Go.RowKit Go.Rh

def refN1 : List ByteArray := [⟨#[110, 101, 103, 97, 116, 101]⟩, ⟨#[97, 98, 115]⟩, ⟨#[105, 110, 118, 101, 114, 116]⟩, ⟨#[49, 43]⟩, ⟨#[49, 45]⟩, ⟨#[50, 42]⟩, ⟨#[50, 47]⟩, ⟨#[48, 61]⟩, ⟨#[48, 60]⟩, ⟨#[48, 60, 62]⟩, ⟨#[43]⟩, ⟨#[45]⟩, ⟨#[42]⟩, ⟨#[47]⟩, ⟨#[109, 111, 100]⟩, ⟨#[97, 110, 100]⟩, ⟨#[111, 114]⟩, ⟨#[120, 111, 114]⟩, ⟨#[108, 115, 104, 105, 102, 116]⟩, ⟨#[114, 115, 104, 105, 102, 116]⟩, ⟨#[61]⟩, ⟨#[60, 62]⟩, ⟨#[60]⟩, ⟨#[62]⟩, ⟨#[117, 60]⟩, ⟨#[109, 105, 110]⟩, ⟨#[109, 97, 120]⟩, ⟨#[100, 117, 112]⟩, ⟨#[100, 114, 111, 112]⟩, ⟨#[115, 119, 97, 112]⟩, ⟨#[111, 118, 101, 114]⟩, ⟨#[114, 111, 116]⟩, ⟨#[110, 105, 112]⟩, ⟨#[116, 117, 99, 107]⟩, ⟨#[63, 100, 117, 112]⟩, ⟨#[50, 100, 117, 112]⟩, ⟨#[50, 100, 114, 111, 112]⟩, ⟨#[50, 115, 119, 97, 112]⟩, ⟨#[50, 111, 118, 101, 114]⟩, ⟨#[112, 105, 99, 107]⟩, ⟨#[114, 111, 108, 108]⟩, ⟨#[100, 101, 112, 116, 104]⟩, ⟨#[115, 62, 100]⟩, ⟨#[100, 43]⟩, ⟨#[100, 45]⟩, ⟨#[100, 110, 101, 103, 97, 116, 101]⟩, ⟨#[100, 97, 98, 115]⟩, ⟨#[100, 60]⟩, ⟨#[100, 117, 60]⟩, ⟨#[100, 61]⟩, ⟨#[100, 50, 42]⟩, ⟨#[100, 50, 47]⟩, ⟨#[109, 42]⟩, ⟨#[117, 109, 42]⟩, ⟨#[117, 109, 47, 109, 111, 100]⟩, ⟨#[102, 109, 47, 109, 111, 100]⟩, ⟨#[115, 109, 47, 114, 101, 109]⟩, ⟨#[42, 47]⟩, ⟨#[42, 47, 109, 111, 100]⟩, ⟨#[47, 109, 111, 100]⟩, ⟨#[102, 110, 101, 103, 97, 116, 101]⟩, ⟨#[102, 97, 98, 115]⟩, ⟨#[102, 43]⟩, ⟨#[102, 45]⟩, ⟨#[102, 42]⟩, ⟨#[102, 47]⟩, ⟨#[102, 109, 105, 110]⟩, ⟨#[102, 109, 97, 120]⟩, ⟨#[102, 60]⟩, ⟨#[102, 61]⟩, ⟨#[115, 62, 102]⟩, ⟨#[102, 62, 115]⟩, ⟨#[64]⟩, ⟨#[33]⟩, ⟨#[99, 64]⟩, ⟨#[99, 33]⟩, ⟨#[43, 33]⟩, ⟨#[50, 64]⟩, ⟨#[50, 33]⟩, ⟨#[102, 105, 108, 108]⟩, ⟨#[109, 111, 118, 101]⟩, ⟨#[104, 101, 114, 101]⟩, ⟨#[97, 108, 108, 111, 116]⟩, ⟨#[44]⟩, ⟨#[99, 44]⟩, ⟨#[97, 108, 105, 103, 110]⟩, ⟨#[97, 108, 105, 103, 110, 101, 100]⟩, ⟨#[99, 101, 108, 108, 115]⟩, ⟨#[99, 111, 117, 110, 116]⟩, ⟨#[101, 109, 105, 116]⟩, ⟨#[46]⟩, ⟨#[117, 46]⟩, ⟨#[100, 46]⟩, ⟨#[102, 46]⟩, ⟨#[99, 114]⟩, ⟨#[115, 112, 97, 99, 101]⟩, ⟨#[115, 112, 97, 99, 101, 115]⟩, ⟨#[116, 121, 112, 101]⟩, ⟨#[46, 115]⟩, ⟨#[100, 101, 99, 105, 109, 97, 108]⟩, ⟨#[104, 101, 120]⟩, ⟨#[60, 35]⟩, ⟨#[35]⟩, ⟨#[35, 115]⟩, ⟨#[104, 111, 108, 100]⟩, ⟨#[115, 105, 103, 110]⟩, ⟨#[35, 62]⟩]
def refN2 : List ByteArray := [⟨#[62, 114]⟩, ⟨#[114, 62]⟩, ⟨#[114, 64]⟩, ⟨#[105]⟩, ⟨#[106]⟩, ⟨#[117, 110, 108, 111, 111, 112]⟩, ⟨#[101, 120, 101, 99, 117, 116, 101]⟩, ⟨#[99, 97, 116, 99, 104]⟩, ⟨#[116, 104, 114, 111, 119]⟩]
def refN3 : List ByteArray := [⟨#[105, 102]⟩, ⟨#[101, 108, 115, 101]⟩, ⟨#[116, 104, 101, 110]⟩, ⟨#[98, 101, 103, 105, 110]⟩, ⟨#[119, 104, 105, 108, 101]⟩, ⟨#[114, 101, 112, 101, 97, 116]⟩, ⟨#[117, 110, 116, 105, 108]⟩, ⟨#[97, 103, 97, 105, 110]⟩, ⟨#[100, 111]⟩, ⟨#[63, 100, 111]⟩, ⟨#[108, 111, 111, 112]⟩, ⟨#[43, 108, 111, 111, 112]⟩, ⟨#[108, 101, 97, 118, 101]⟩, ⟨#[99, 97, 115, 101]⟩, ⟨#[111, 102]⟩, ⟨#[101, 110, 100, 111, 102]⟩, ⟨#[101, 110, 100, 99, 97, 115, 101]⟩]
def refN4 : List ByteArray := [⟨#[58]⟩, ⟨#[58, 110, 111, 110, 97, 109, 101]⟩, ⟨#[59]⟩, ⟨#[101, 120, 105, 116]⟩, ⟨#[114, 101, 99, 117, 114, 115, 101]⟩, ⟨#[91]⟩, ⟨#[93]⟩, ⟨#[108, 105, 116, 101, 114, 97, 108]⟩, ⟨#[99, 111, 109, 112, 105, 108, 101, 44]⟩, ⟨#[112, 111, 115, 116, 112, 111, 110, 101]⟩, ⟨#[39]⟩, ⟨#[91, 39, 93]⟩, ⟨#[105, 109, 109, 101, 100, 105, 97, 116, 101]⟩, ⟨#[99, 114, 101, 97, 116, 101]⟩, ⟨#[100, 111, 101, 115, 62]⟩, ⟨#[99, 111, 110, 115, 116, 97, 110, 116]⟩, ⟨#[118, 97, 114, 105, 97, 98, 108, 101]⟩, ⟨#[118, 97, 108, 117, 101]⟩, ⟨#[116, 111]⟩, ⟨#[100, 101, 102, 101, 114]⟩, ⟨#[105, 115]⟩, ⟨#[99, 104, 97, 114]⟩, ⟨#[91, 99, 104, 97, 114, 93]⟩, ⟨#[40]⟩, ⟨#[92]⟩, ⟨#[115, 34]⟩, ⟨#[115, 92, 34]⟩, ⟨#[46, 34]⟩, ⟨#[101, 118, 97, 108, 117, 97, 116, 101]⟩, ⟨#[112, 97, 114, 115, 101]⟩, ⟨#[112, 97, 114, 115, 101, 45, 110, 97, 109, 101]⟩, ⟨#[115, 97, 118, 101, 45, 105, 110, 112, 117, 116]⟩, ⟨#[114, 101, 115, 116, 111, 114, 101, 45, 105, 110, 112, 117, 116]⟩, ⟨#[123, 58]⟩, ⟨#[119, 111, 114, 100, 108, 105, 115, 116]⟩, ⟨#[115, 101, 116, 45, 99, 117, 114, 114, 101, 110, 116]⟩, ⟨#[115, 101, 116, 45, 111, 114, 100, 101, 114]⟩, ⟨#[103, 101, 116, 45, 111, 114, 100, 101, 114]⟩, ⟨#[109, 97, 114, 107, 101, 114]⟩, ⟨#[115, 101, 116, 45, 114, 101, 99, 111, 103, 110, 105, 122, 101, 114, 115]⟩, ⟨#[103, 101, 116, 45, 114, 101, 99, 111, 103, 110, 105, 122, 101, 114, 115]⟩, ⟨#[107, 101, 121]⟩, ⟨#[98, 121, 101]⟩, ⟨#[40, 100, 111, 101, 115, 62, 41]⟩, ⟨#[40, 116, 111, 41]⟩, ⟨#[40, 105, 115, 41]⟩, ⟨#[40, 109, 97, 114, 107, 101, 114, 41]⟩]
def refNames (kind : Int) : List ByteArray := if kind = 1 then refN1 else if kind = 2 then refN2 else if kind = 3 then refN3 else refN4

/-- A slice literal of strings. -/
theorem wpList_buildStrs {P : Program} {ops : Array Oper} {rest : List Oper} {o : Oper} {a : Act} {w : World} {Q : Exit → Act → World → Prop} {t e : TypeId} {len : Nat} {parts : Array (Nat × Operand)} (ho : o.op = .buildSlice t len parts) (hg : o.guard = none)
    (zs : List ByteArray)
    (hu : P.underlying t = some (.slice e)) (hsz : (P.info? e).map (·.size) = some 1) (hz : ((P.info? e).bind (·.zero)).isSome = true)
    (hlen : len = zs.length) (hpos : 0 < len) (hsmall : len ≤ 2 ^ 24)
    (hparts : parts.toList = (zs.zipIdx 0).map fun x => (x.2, Operand.const (Value.string x.1)))
    (h : wpList P ops Q rest (a.put o.dst (.slice (some ⟨w.heap.size, 0, none⟩) len len)) (w.alloc (.cells (zs.map Value.string).toArray e))) : wpList P ops Q (o :: rest) a w := by
  cases hie : P.info? e with
  | none => simp [hie] at hsz
  | some ie =>
    simp only [hie, Option.map_some, Option.some.injEq, Option.bind_some] at hsz hz
    obtain ⟨z, hzz⟩ := Option.isSome_iff_exists.1 hz
    refine wpList_buildSlice hg t e len parts ho _ ie z hu hie hzz (by rw [hsz]; omega) (by rw [hsz]; omega) ?_ h
    have e1 : (parts.map fun (i, x) => (i, a.eval x)).toList = ((zs.map Value.string).zipIdx 0).map fun x => (x.2, x.1) := by
      rw [Array.toList_map, hparts, List.zipIdx_map, List.map_map, List.map_map]
      rfl
    rw [e1, hsz]
    exact Great.fill_flat _ _ (fun v hv => by obtain ⟨n, _, rfl⟩ := List.mem_map.1 hv; rfl) (by simp [hlen])

set_option maxHeartbeats 2000000 in
set_option maxRecDepth 100000 in
theorem ref_names1 (w : World) :
    Calls Tryz.prog 54 #[.int .i64 1] w fun e w' => e = .returned (.slice (some ⟨w.heap.size, 0, none⟩) 107 107) ∧ w' = w.alloc (.cells (refN1.map Value.string).toArray 9) := by
  go_enter Tryz.func54, Tryz.ntmps54
  go_wp2_with (refine wpList_buildStrs (by rfl) (by rfl) refN1 Tryz.underlying115 (by kernel_rfl) (by kernel_rfl) (by kernel_rfl) (by decide) (by decide) (by kernel_rfl) ?_)
  go_ret
  exact ⟨rfl, rfl⟩

set_option maxHeartbeats 2000000 in
set_option maxRecDepth 100000 in
theorem ref_names2 (w : World) :
    Calls Tryz.prog 54 #[.int .i64 2] w fun e w' => e = .returned (.slice (some ⟨w.heap.size, 0, none⟩) 9 9) ∧ w' = w.alloc (.cells (refN2.map Value.string).toArray 9) := by
  go_enter Tryz.func54, Tryz.ntmps54
  go_wp2_with (refine wpList_buildStrs (by rfl) (by rfl) refN2 Tryz.underlying115 (by kernel_rfl) (by kernel_rfl) (by kernel_rfl) (by decide) (by decide) (by kernel_rfl) ?_)
  go_ret
  exact ⟨rfl, rfl⟩

set_option maxHeartbeats 2000000 in
set_option maxRecDepth 100000 in
theorem ref_names3 (w : World) :
    Calls Tryz.prog 54 #[.int .i64 3] w fun e w' => e = .returned (.slice (some ⟨w.heap.size, 0, none⟩) 17 17) ∧ w' = w.alloc (.cells (refN3.map Value.string).toArray 9) := by
  go_enter Tryz.func54, Tryz.ntmps54
  go_wp2_with (refine wpList_buildStrs (by rfl) (by rfl) refN3 Tryz.underlying115 (by kernel_rfl) (by kernel_rfl) (by kernel_rfl) (by decide) (by decide) (by kernel_rfl) ?_)
  go_ret
  exact ⟨rfl, rfl⟩

set_option maxHeartbeats 2000000 in
set_option maxRecDepth 100000 in
theorem ref_names4 (w : World) :
    Calls Tryz.prog 54 #[.int .i64 4] w fun e w' => e = .returned (.slice (some ⟨w.heap.size, 0, none⟩) 47 47) ∧ w' = w.alloc (.cells (refN4.map Value.string).toArray 9) := by
  go_enter Tryz.func54, Tryz.ntmps54
  go_wp2_with (refine wpList_buildStrs (by rfl) (by rfl) refN4 Tryz.underlying115 (by kernel_rfl) (by kernel_rfl) (by kernel_rfl) (by decide) (by decide) (by kernel_rfl) ?_)
  go_ret
  exact ⟨rfl, rfl⟩

def refLen (kind : Int) : Nat := if kind = 1 then 107 else if kind = 2 then 9 else if kind = 3 then 17 else 47
theorem refNames_length (kind : Int) : (refNames kind).length = refLen kind := by
  unfold refNames refLen
  split
  · kernel_rfl
  · split
    · kernel_rfl
    · split
      · kernel_rfl
      · kernel_rfl
theorem ref_names (w : World) (kind : Int) (h1 : 1 ≤ kind) (h4 : kind ≤ 4) :
    Calls Tryz.prog 54 #[.int .i64 kind] w fun e w' => e = .returned (.slice (some ⟨w.heap.size, 0, none⟩) (refLen kind) (refLen kind)) ∧ w' = w.alloc (.cells ((refNames kind).map Value.string).toArray 9) := by
  have hk : kind = 1 ∨ kind = 2 ∨ kind = 3 ∨ kind = 4 := by omega
  rcases hk with rfl | rfl | rfl | rfl
  · exact ref_names1 w
  · exact ref_names2 w
  · exact ref_names3 w
  · exact ref_names4 w
end Go.Proofs.YtjcaidbkbdkpeaaGreatDoor
