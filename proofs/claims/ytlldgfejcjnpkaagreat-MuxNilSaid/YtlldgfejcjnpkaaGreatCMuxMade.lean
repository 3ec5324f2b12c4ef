/- parapetlaw16.made: a device and the reference's, with a code. -/
import Derived.Test.YtlldgfejcjnpkaaGreatCMuxCodes
set_option linter.unusedVariables false
namespace Go.Proofs.YtlldgfejcjnpkaaGreat
open Go.RowKit
set_option maxHeartbeats 10000000
set_option maxRecDepth 100000

def codeM (c : Int) : ParM := ⟨c, 2, 1, 10, 9⟩
def firstC (c : Int) : DevM := { p := codeM c, m := mem16, max := 99, cell := ⟨99, 0, false⟩, value := [0] }
theorem codeM_ok {c : Int} (h : 0 ≤ c ∧ c < 4294967296) : (codeM c).Ok := ⟨h, by show (0 : Int) ≤ 9 ∧ (9 : Int) < 4294967296; decide⟩
theorem new_code {c : Int} (h : c ≠ 0) : DevM.new (codeM c) mem16 99 = (mem16, some (firstC c), 0) := by
  have hl : (!(codeM c).lawful) = false := by simp [ParM.lawful, codeM, h]
  have ho : openM mem16 99 = (mem16, some ⟨99, 0, false⟩, 0) := by kernel_rfl
  unfold DevM.new
  rw [hl, ho]
  rfl
theorem new_code0 : DevM.new (codeM 0) mem16 99 = (mem16, none, 90) := by kernel_rfl
theorem firstC_inv {c : Int} (h : 0 ≤ c ∧ c < 4294967296) (h0 : c ≠ 0) : (firstC c).Inv := (DevM.inv_new (codeM_ok h) (by omega) (new_code h0)).1
theorem DevIs.base {B B' : Nat} {w : World} {a mb : Nat} {m : DevM} {F : Nat → Prop} (h : DevIs B w a mb m F) (hB : B' ≤ B) : DevIs B' w a mb m F := by
  obtain ⟨⟨κ, c, d, v, g, val, hH, hF⟩, hlo⟩ := h
  exact ⟨⟨κ, c, d, v, g, val, { hH with lo := fun x hx => by have := hH.lo x hx; omega }, hF⟩, fun x hx => by have := hlo x hx; omega⟩
theorem RDIs.base {B B' : Nat} {w : World} {b mb : Nat} {m : DevM} {F : Nat → Prop} (h : RDIs B w b mb m F) (hB : B' ≤ B) : RDIs B' w b mb m F := by
  obtain ⟨⟨κ, A, c, vv, val, cb, hH, hF⟩, hlo⟩ := h
  exact ⟨⟨κ, A, c, vv, val, cb, { hH with lo := fun x hx => by have := hH.lo x hx; omega }, hF⟩, fun x hx => by have := hlo x hx; omega⟩
theorem TwoD.base {B B' a ma b mb : Nat} {w : World} {m : DevM} {T : Nat → Prop} (h : TwoD B w a ma b mb m T) (hB : B' ≤ B) : TwoD B' w a ma b mb m T := by
  obtain ⟨F1, F2, hP, hT⟩ := h.pair
  exact ⟨⟨F1, F2, ⟨hP.dev.base hB, hP.ref.base hB, hP.dj⟩, hT⟩, h.inv, h.lt⟩
/-- A device and the reference's of one code, or none where it is 0; the memory at ma. -/
def MadeAns (w : World) (c : Int) (e : Ending) (w' : World) : Prop :=
  Below w.heap.size w w' ∧ ((c = 0 ∧ ∃ ma, e = .returned (.tuple #[.pointer none, .pointer (some ⟨ma, 0, none⟩), .pointer none])) ∨
    (c ≠ 0 ∧ ∃ a ma b mb T, e = .returned (.tuple #[.pointer (some ⟨a, 0, none⟩), .pointer (some ⟨ma, 0, none⟩), .pointer (some ⟨b, 0, none⟩)]) ∧ TwoD w.heap.size w' a ma b mb (firstC c) T ∧ ∀ y, T y → w.heap.size ≤ y))
theorem made_any (c : Int) (w : World) (hc : 0 ≤ c ∧ c < 4294967296) : Calls Tryz.prog 31 #[.int .u32 c] w fun e w' => MadeAns w c e w' := by
  unfold MadeAns
  go_enter Tryz.func31, Tryz.ntmps31
  go_wp2_with fail
  refine (lawSmall_any w).mono ?_
  rintro e w1 ⟨rfl, hb1⟩
  have hz1 := hb1.size
  have hbP := (Below.refl w1.heap.size w1).alloc (Nat.le_refl _) (.cells #[.int .u32 c, .int .i64 2, .int .i64 1, .int .i64 10, .int .u32 9] 36)
  have hP := Blk.new w1 36 #[.int .u32 c, .int .i64 2, .int .i64 1, .int .i64 10, .int .u32 9]
  have hb2 := hb1.trans (hbP.mono hz1)
  have hz2 := hb2.size
  unfold parVal smallM
  simp only
  clear hb1 hbP
  go_upto_region 3 with fail
  generalize hgP : w1.heap.size = gP at *
  generalize w1.alloc (.cells #[.int .u32 c, .int .i64 2, .int .i64 1, .int .i64 10, .int .u32 9] 36) = w2 at *
  have hcP := hP.cell
  have HgP := Lib.hid hP.lt
  have Hz := Lib.hid hz2
  go_wp2_with fail
  refine (memNew16_any w2).mono ?_
  rintro e w3 ⟨ma, rfl, hM3, hb3⟩
  have hP3 := hP.below hb3 hP.lt
  clear hcP hP
  have hcP := hP3.cell
  go_wp2_with fail
  refine (rmemNew16_any w3).mono ?_
  rintro e w4 ⟨mb, rfl, hM4, hb4⟩
  obtain ⟨F1, F2, hMs⟩ := mems_new hM3 hb3 hM4 hb4
  have hP4 := hP3.below hb4 hP3.lt
  have hz4 : w2.heap.size ≤ w4.heap.size := Nat.le_trans hb3.size hb4.size
  have hq4 := hb3.trans (hb4.mono hb3.size)
  clear hcP hP3 hM3 hM4 hb3 hb4
  have hcP := hP4.cell
  have hnew := devNew_any w2.heap.size ma (codeM c) mem16 F1 99 w4 hMs.m1 rfl hMs.lo1 hz4 (by omega)
  have hrnew := fun (W : World) h1 h2 => rdNew_any w2.heap.size mb (codeM c) mem16 F2 99 W (codeM_ok hc) h1 h2
  unfold NewAns at hnew
  by_cases h0 : c = 0
  · subst h0
    rw [new_code0] at hnew hrnew
    simp only at hnew hrnew
    go_wp2_with fail
    refine hnew.mono ?_
    rintro e w5 ⟨hk5, rfl, hM5⟩
    have hq5 := hq4.trans (hk5.below hz4 (fun x hx => (hMs.lo1 x hx).1))
    have hP5 := hP4.keep hk5 (fun hx => by have h1 := (hMs.lo1 gP hx).1; have h2 := HgP.out; omega)
    have hM2 := hMs.m2.keep hk5 (fun x hx h1 => hMs.dj x h1 hx) (fun _ h => h)
    have hlo2 : ∀ x, F2 x → w2.heap.size ≤ x ∧ x < w5.heap.size := fun x hx => by have := hMs.lo2 x hx; have := hk5.size; omega
    have hz5 := hk5.size
    clear hcP hP4 hnew hMs hM5 hk5
    have hcP := hP5.cell
    go_wp2_with fail
    refine (hrnew w5 hM2 hlo2).mono ?_
    rintro e w6 ⟨hk6, rfl⟩
    have hb6 := hb2.trans ((hq5.trans (hk6.below (by omega) (fun x hx => (hlo2 x hx).1))).mono hz2)
    clear hcP hP5 hrnew hM2 hlo2 hk6
    go_wp2_with fail
    refine bodyPost_ret (v := .tuple #[.pointer none, .pointer (some ⟨ma, 0, none⟩), .pointer none]) (by simp [results, Tryz.results31, go_sem]) rfl ⟨hb6, ma, rfl⟩
  · rw [new_code h0] at hnew hrnew
    simp only at hnew hrnew
    go_wp2_with fail
    refine hnew.mono ?_
    rintro e w5 ⟨hk5, _, a, F3, rfl, hI5, hs5⟩
    have hq5 := hq4.trans (hk5.below hz4 (fun x hx => (hMs.lo1 x hx).1))
    have hP5 := hP4.keep hk5 (fun hx => by have h1 := (hMs.lo1 gP hx).1; have h2 := HgP.out; omega)
    obtain ⟨hM5, hlo5, hdj5⟩ := hMs.dev hk5 hs5
    have hz5 := hk5.size
    clear hcP hP4 hnew hMs hk5 hs5
    have hcP := hP5.cell
    go_wp2_with fail
    refine (hrnew w5 hM5 hlo5).mono ?_
    rintro e w6 ⟨hk6, b, rfl, hR6⟩
    have hT := two_newD (firstC_inv hc h0) hI5 hdj5 hR6 hk6
    have hb6 := hb2.trans ((hq5.trans (hk6.below (by omega) (fun x hx => (hlo5 x hx).1))).mono hz2)
    have Hlo := Lib.hid hI5.lo
    have Hlo2 := Lib.hid hR6.lo
    clear hcP hP5 hrnew hM5 hlo5 hk6 hI5 hR6
    go_wp2_with fail
    refine bodyPost_ret (v := .tuple #[.pointer (some ⟨a, 0, none⟩), .pointer (some ⟨ma, 0, none⟩), .pointer (some ⟨b, 0, none⟩)]) (by simp [results, Tryz.results31, go_sem]) rfl ⟨hb6, .inr ⟨h0, a, ma, b, mb, _, rfl, hT.base hz2, fun y hy => ?_⟩⟩
    rcases hy with hy | hy
    · have := Hlo.out y hy; omega
    · have := Hlo2.out y hy; omega
end Go.Proofs.YtlldgfejcjnpkaaGreat
