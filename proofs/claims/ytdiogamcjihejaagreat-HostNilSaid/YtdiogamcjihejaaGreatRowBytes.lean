/- How rows hand bytes, sets and numbers on. -/
import Derived.Test.YtdiogamcjihejaaGreatRowStruct
import Derived.Test.YtdiogamcjihejaaGreatParam
import Derived.DataShut
namespace Go.Proofs.YtdiogamcjihejaaGreat
open Go.RowKit

theorem wf_u8 {z : Int} (h : (Lit.int .u8 z).wf = true) : 0 ≤ z ∧ z < 256 := by
  have := (Lit.wf_int_iff .u8 z).1 h
  simp [IntKind.min, IntKind.max, IntKind.bits, IntKind.signed] at this
  omega
theorem wf_u32 {z : Int} (h : (Lit.int .u32 z).wf = true) : 0 ≤ z ∧ z < 4294967296 := by
  have := (Lit.wf_int_iff .u32 z).1 h
  simp [IntKind.min, IntKind.max, IntKind.bits, IntKind.signed] at this
  omega
theorem wf_i64 {z : Int} (h : (Lit.int .i64 z).wf = true) : -9223372036854775808 ≤ z ∧ z ≤ 9223372036854775807 := by
  have := (Lit.wf_int_iff .i64 z).1 h
  simp [IntKind.min, IntKind.max, IntKind.bits, IntKind.signed] at this
  omega
def bytesOf (zs : List Int) : List UInt8 := zs.map fun z => UInt8.ofNat z.toNat
theorem bytesOf_cells (zs : List Int) (h : ∀ z ∈ zs, (Lit.int .u8 z).wf = true) : zs.map (Value.int .u8) = u8c (bytesOf zs) := by
  induction zs with
  | nil => rfl
  | cons z zs ih =>
    have h1 := wf_u8 (h z (by simp))
    have h2 := ih (fun y hy => h y (by simp [hy]))
    simp only [bytesOf, u8c, List.map_cons] at h2 ⊢
    rw [h2]
    congr 2
    simp only [UInt8.toNat_ofNat']
    omega
theorem reads_bytes {W : World} {B n : Nat} {A : Option Addr} {zs : List Int} (hr : Reads W B 1 A n (zs.map (Value.int .u8))) (h : ∀ z ∈ zs, (Lit.int .u8 z).wf = true) : Reads W B 1 A n (u8c (bytesOf zs)) := by
  rw [← bytesOf_cells zs h]
  exact hr
theorem par_ok {a b c d e : Int} (h0 : (Lit.int .u32 a).wf = true) (h4 : (Lit.int .u32 e).wf = true) : (ParM.mk a b c d e).Ok := ⟨wf_u32 h0, wf_u32 h4⟩
end Go.Proofs.YtdiogamcjihejaaGreat
