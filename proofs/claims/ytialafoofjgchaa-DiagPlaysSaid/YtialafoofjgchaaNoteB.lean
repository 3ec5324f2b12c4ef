/- diag.Diag.Note, whatever the code. -/
import Derived.Test.YtialafoofjgchaaDiagB
namespace Go.Proofs.Ytialafoofjgchaa
open Go.RowKit
theorem diagNote_both (a : Nat) (L : List Rec) (F : Nat → Prop) (code s k : Int) (w : World) (hD : DiagIs w a L F) (hs : L.length < 1073741823) :
    Calls Try.prog 9 #[.pointer (some ⟨a, 0, none⟩), .int .i64 code, .int .u32 s, .int .u32 k] w fun e w' => ∃ (nn ee : Int) (L' : List Rec) (F' : Nat → Prop), e = .returned (.tuple #[.int .i64 nn, .int .i64 ee]) ∧ DiagIs w' a L' F' ∧ Keep F w w' ∧ (∀ x, F' x → F x ∨ (w.heap.size ≤ x ∧ x < w'.heap.size)) ∧
      ((code = 0 ∧ nn = 0 ∧ ee = 2 ∧ L' = L) ∨ (code ≠ 0 ∧ nn = L.length + 1 ∧ ee = 0 ∧ L' = L ++ [⟨L.length + 1, code, s, k⟩])) := by
  by_cases h0 : code = 0
  · subst h0
    refine (diagNote_ok a s k w).mono ?_
    rintro e w' ⟨rfl, rfl⟩
    exact ⟨0, 2, L, F, rfl, hD, Keep.refl _ _, fun _ h => .inl h, .inl ⟨rfl, rfl, rfl, rfl⟩⟩
  · refine (diagNote_any a L F code s k w (by simpa using h0) hD hs).mono ?_
    rintro e w' ⟨rfl, hD', hk⟩
    exact ⟨_, _, _, _, rfl, hD', hk, fun _ h => h, .inr ⟨h0, rfl, rfl, rfl⟩⟩
end Go.Proofs.Ytialafoofjgchaa
