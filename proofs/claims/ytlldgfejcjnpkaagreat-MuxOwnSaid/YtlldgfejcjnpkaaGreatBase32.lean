/- The base of the laws, part 32: contracts and plain lemmas, no statement. -/
import Derived.Test.YtlldgfejcjnpkaaGreatBase2
import Derived.Test.YtlldgfejcjnpkaaGreatBase7
import Derived.Test.YtlldgfejcjnpkaaGreatBase8
import Derived.Test.YtlldgfejcjnpkaaGreatBase10
import Derived.Test.YtlldgfejcjnpkaaGreatBase14
import Derived.Test.YtlldgfejcjnpkaaGreatBase25
import Derived.Test.YtlldgfejcjnpkaaGreatBase27
import Derived.Test.YtlldgfejcjnpkaaGreatBase30
set_option linter.unusedVariables false
/- parapetlaw13: frame, Awake; a new memory. -/
namespace Go.Proofs.YtlldgfejcjnpkaaGreat
open Go.RowKit
set_option maxHeartbeats 10000000
set_option maxRecDepth 100000

theorem lawFrame_any (k c s n f : Int) (data : List UInt8) (A : Option Addr) (len cap Br : Nat) (w : World) (hlen : data.length = len) (hc : 0 ≤ c ∧ c < 4294967296) (hs : 0 ≤ s ∧ s < 4294967296) (hn : 0 ≤ n ∧ n < 4294967296) (hr : Reads w Br 1 A len (u8c data)) (hB : Br ≤ w.heap.size) :
    Calls Tryz.prog 44 #[.agg #[.int .i64 k, .int .u32 c, .int .u32 s, .int .u32 n, .int .i64 f, .slice A len cap]] w fun e w' => ∃ v, e = .returned v ∧ w'.ownsRow w.heap.size 5 1 v (UnitM.mk k c s n f data).encode.length (u8c (UnitM.mk k c s n f data).encode) ∧ Below w.heap.size w w' := by
  subst hlen
  have hb1 : Below w.heap.size w (w.alloc (.cells #[.int .i64 k, .int .u32 c, .int .u32 s, .int .u32 n, .int .i64 f, .slice A data.length cap] 64)) := (Below.refl _ _).alloc (Nat.le_refl _) _
  have henc := r4encode_any ⟨k, c, s, n, f, data⟩ A cap Br _ ⟨hc, hs, hn⟩ (hr.below (hb1.mono hB)) (Nat.le_trans hB hb1.size)
  unfold unitVal at henc
  simp only at henc
  generalize (UnitM.mk k c s n f data).encode = fr at *
  generalize (UnitM.mk k c s n f data).lawful = law at *
  have hs1 := hb1.size
  clear hr
  go_enter Tryz.func44, Tryz.ntmps44
  go_wp2_with fail
  refine henc.mono ?_
  rintro e w1 ⟨v, rfl, hown, hbe⟩
  obtain ⟨Av, cv, rfl⟩ := own_slice hown
  go_wp2_with fail
  go_ret
  exact ⟨_, rfl, own_base hown hs1, hb1.trans (hbe.mono hs1)⟩
/-- A new memory of 16 bytes. -/
def mem16 : MemM := ⟨List.replicate 16 0, false, false, 0, 0⟩
theorem memNew16_any (w : World) : Calls Tryz.prog 10 #[.int .i64 16] w fun e w' => ∃ mb, e = .returned (.tuple #[.pointer (some ⟨mb, 0, none⟩), .int .i64 0]) ∧ MemIs w' mb mem16 (fun x => w.heap.size ≤ x ∧ x < w'.heap.size) ∧ Below w.heap.size w w' := by
  have hmk : ∀ W : World, (Instr.makeSlice 22 (.int .i64 16) (.int .i64 16)).run Tryz.prog W = .ok (.slice (some ⟨W.heap.size, 0, none⟩) 16 16) (W.alloc (.cells (madeCells #[.int .u8 0] 16) 5)) := run_make_row' (P := Tryz.prog) 22 5 (.int .u8 0) 1 Tryz.underlying22 byte_info rfl .i64 .i64 16 (by omega) (by omega)
  have hmade := own_made w 16 (by omega)
  go_enter Tryz.func10, Tryz.ntmps10
  go_wp2_with fail
  refine bodyPost_ret (v := .tuple #[.pointer (some ⟨w.heap.size + 1, 0, none⟩), .int .i64 0]) (by simp [results, Tryz.results10, go_sem]) rfl ⟨w.heap.size + 1, rfl, ⟨.slice (some ⟨w.heap.size, 0, none⟩) 16 16, 0, ?_⟩, ((Below.refl _ w).alloc (Nat.le_refl _) _).alloc (by simp) _⟩
  exact {
    blk := Blk.new' (w.alloc _) _ _ (by simp)
    bytes := own_base (own_below hmade ((Below.refl _ _).alloc (Nat.le_refl _) _)) (Nat.zero_le _)
    fb := by simp
    fr := fun x hx => by simp [Value.ownBlock] at hx; simp; omega
    len := by decide
    left := by simp [mem16] }
theorem small_eq : DevM.small = smallM := rfl
theorem first_inv (mx : Int) (h : 0 < mx ∧ mx < 4294967296) : (DevM.first mx).Inv :=
  (DevM.inv_new (p := smallM) (m := mem16) (mx := mx) small_ok (by omega) (DevM.new_small mx (by omega))).1
/-- A new device over a new memory, at the small set. -/
theorem devFirst_any (mb : Nat) (F : Nat → Prop) (B : Nat) (mx : Int) (w : World) (hM : MemIs w mb mem16 F) (hlo : ∀ x, F x → B ≤ x ∧ x < w.heap.size) (hB : B ≤ w.heap.size) (hmx : 0 < mx ∧ mx < 4294967296) :
    Calls Tryz.prog 12 #[parVal smallM, .pointer (some ⟨mb, 0, none⟩), .int .u32 mx] w fun e w' => ∃ a F', e = .returned (.tuple #[.pointer (some ⟨a, 0, none⟩), .int .i64 0]) ∧ DevIs B w' a mb (DevM.first mx) F' ∧ Keep F w w' ∧ ∀ x, F' x → F x ∨ w.heap.size ≤ x := by
  refine (devNew_any B mb smallM mem16 F mx w hM rfl hlo hB (by omega)).mono ?_
  have hn : DevM.new smallM mem16 mx = (mem16, some (DevM.first mx), 0) := DevM.new_small mx (by omega)
  rw [hn]
  rintro e w' ⟨hk, _, a, F', he, hI, hF⟩
  exact ⟨a, F', he, hI, hk, hF⟩
/-- The host's wish, at the small set. -/
def wishU : UnitM := ⟨1, 7, 0, 0, 0, smallM.sign⟩
theorem wish_decode : decodeM wishU.encode = (wishU, 0) := by
  apply decode_encode
  · unfold UnitM.lawful wishU
    simp [isHost, isDev, dataOk, sessOk, numOk, flagOk, sign_length]
  · exact ⟨by simp [wishU], by simp [wishU], by simp [wishU]⟩
theorem wish_receive {d : DevM} (hp : d.p = smallM) (h6 : d.state ≠ 6) : d.receive wishU.encode = (if d.wish.2.2 = 0 ∨ d.wish.2.2 = 70 then d.wish else ({ d.wish.1 with log := noteM d.wish.1.log d.wish.2.2 d.wish.1.session d.wish.1.number }, d.wish.2.1, d.wish.2.2)) := by
  have hr : d.read wishU.encode = d.wish := by
    unfold DevM.read
    simp only [wish_decode]
    rw [if_neg (by decide), if_neg (by decide), if_neg (by rw [hp]; decide)]
    unfold DevM.take
    rw [if_pos (show wishU.kind = 1 from rfl), if_pos (by rw [hp]; rfl)]
  unfold DevM.receive
  rw [if_neg h6, hr]
/-- What the first wish answers. -/
theorem first_wish (mx : Int) (h : 0 < mx) : (DevM.first mx).wish = ((DevM.first mx).wish.1, (UnitM.mk 17 7 1 0 0 smallM.sign).encode, 0) ∧ (DevM.first mx).wish.1.session = 1 ∧ (DevM.first mx).wish.1.state = 2 := by
  have hb : (DevM.first mx).busy = false := by simp [DevM.busy, DevM.first]
  have e : (DevM.first mx).wish = (DevM.first mx).begin_ := by unfold DevM.wish; rw [hb]; rfl
  have hn : (DevM.first mx).cell.next (DevM.first mx).m = (⟨mx, 1, false⟩, ((DevM.first mx).m.writeSlot 0 1).1, 1, 0) := by
    show (⟨mx, 0, false⟩ : CellM).next ⟨List.replicate 16 0, false, false, 0, 0⟩ = _
    unfold CellM.next
    rw [if_neg (by simp), if_neg (by dsimp only; omega)]
    rfl
  rw [e]
  unfold DevM.begin_
  rw [hn]
  simp only
  rw [if_neg (by decide), if_neg (by decide)]
  exact ⟨rfl, rfl, rfl⟩
theorem offer_decode : decodeM (UnitM.mk 17 7 1 0 0 smallM.sign).encode = (UnitM.mk 17 7 1 0 0 smallM.sign, 0) := by
  apply decode_encode
  · unfold UnitM.lawful
    simp [isHost, isDev, dataOk, sessOk, numOk, flagOk, sign_length]
  · exact ⟨by simp, by simp, by simp⟩
theorem end_state (a0 a1 a2 a3 a4 a5 a6 a7 a8 : Value) (W : World) : (Instr.field 57 (.agg #[a0, a1, a2, a3, a4, a5, a6, a7, a8]) 0).run Tryz.prog W = .ok a0 W := by
  unfold Instr.field
  simp only [Sem.run_bind, run_underlying Tryz.underlying57, Result.andThen]
  have hagg : (isAgg 55).run Tryz.prog W = .ok false W := by kernel_rfl
  show Sem.run _ (do let l ← asAgg (Value.agg #[a0, a1, a2, a3, a4, a5, a6, a7, a8]); part 55 l 0) W = _
  simp [Sem.run_bind, asAgg, part, hagg, Sem.run_pure]
theorem lawAwakeD_any (w : World) : Calls Tryz.prog 9 #[] w fun e w' => e = .returned (.bool true) ∧ Below w.heap.size w w' := by
  have hfld := end_state
  go_enter Tryz.func9, Tryz.ntmps9
  go_wp2_with fail
  refine (memNew16_any w).mono ?_
  rintro e w1 ⟨mb, rfl, hM, hb1⟩
  go_wp2_with fail
  refine (lawSmall_any w1).mono ?_
  rintro e w2 ⟨rfl, hb2⟩
  have hs1 := hb1.size
  have hb2' := hb1.trans (hb2.mono hs1)
  go_wp2_with fail
  refine (devFirst_any mb _ w.heap.size 9 w2 (hM.below hb2) (fun x hx => by have := hb2.size; omega) hb2'.size (by omega)).mono ?_
  rintro e w3 ⟨a, F, rfl, hI, hk3, hF⟩
  have hb3 : Below w.heap.size w w3 := hb2'.trans (hk3.below hb2'.size (fun x hx => hx.1))
  go_wp2_with fail
  refine (lawSmall_any w3).mono ?_
  rintro e w4 ⟨rfl, hb4⟩
  go_wp2_with fail
  refine (r9sign_any smallM w4 small_ok small_lawful).mono ?_
  rintro e w5 ⟨v5, rfl, hown5, hb5⟩
  obtain ⟨A5, c5, rfl⟩ := own_slice hown5
  have hb45 := hb4.trans (hb5.mono hb4.size)
  have hs3 := hb3.size
  go_wp2_with fail
  refine (lawFrame_any 1 7 0 0 0 smallM.sign A5 4 c5 w5.heap.size w5 (sign_length _) (by omega) (by omega) (by omega) (Reads.of_own hown5) (Nat.le_refl _)).mono ?_
  rintro e w6 ⟨v6, rfl, hown6, hb6⟩
  obtain ⟨A6, c6, rfl⟩ := own_slice hown6
  have hb36 := hb45.trans (hb6.mono hb45.size)
  have hb06 := hb3.trans (hb36.mono hs3)
  have hrec := devReceive_any w.heap.size a mb (DevM.first 9) F A6 wishU.encode.length c6 w6.heap.size wishU.encode w6 (hI.below hb36) (first_inv 9 (by omega)) (by decide) (Reads.of_own hown6) (Nat.le_refl _) (own_cap hown6) (by have := encode_small wishU; omega)
  have hwr : (DevM.first 9).receive wishU.encode = ((DevM.first 9).wish.1, (UnitM.mk 17 7 1 0 0 smallM.sign).encode, 0) := by
    rw [wish_receive rfl (by decide)]
    have e := (first_wish 9 (by omega)).1
    rw [e]
    simp
  have hst := (first_wish 9 (by omega)).2.2
  have hinv := ((first_inv 9 (by omega)).wish)
  rw [hwr] at hrec
  generalize (DevM.first 9).wish.1 = k at *
  have hdec := offer_decode
  generalize hfr : (UnitM.mk 17 7 1 0 0 smallM.sign).encode = fr at *
  replace hrec : Calls Tryz.prog 20 #[.pointer (some ⟨a, 0, none⟩), .slice A6 (UnitM.mk 1 7 0 0 0 smallM.sign).encode.length c6] w6 fun e w' => DevAns w.heap.size w6 a mb F (k, fr, 0) e w' := hrec
  generalize (UnitM.mk 1 7 0 0 0 smallM.sign).encode.length = n6 at *
  clear hwr hfr
  go_wp2_with fail
  refine hrec.mono ?_
  rintro e w7 ⟨x7, rfl, hown7, t7⟩
  simp only at hown7
  obtain ⟨A7, c7, rfl⟩ := own_slice hown7
  have hb7 : Below w.heap.size w w7 := hb06.trans (t7.too.keep.below hb06.size (fun x hx => ((hI.lo x hx)).1))
  have hI7 := t7.too.is_
  clear hrec hown6
  go_wp2_with fail
  refine (r4decode_any A7 _ c7 w7.heap.size fr w7 (Reads.of_own hown7) (Nat.le_refl _) (own_cap hown7)).mono ?_
  rw [hdec]
  simp only
  rintro e w8 ⟨v8, rfl, hown8, hb8⟩
  obtain ⟨A8, c8, rfl⟩ := own_slice hown8
  have hb8' := hb7.trans (hb8.mono hb7.size)
  generalize smallM.sign.length = nd at *
  have hI8 := (hI7.below hb8).below ((Below.refl w8.heap.size w8).alloc (Nat.le_refl _) (.cells #[.int .i64 17, .int .u32 7, .int .u32 1, .int .u32 0, .int .i64 0, .slice A8 nd c8] 64))
  have hb9 := hb8'.alloc hb8'.size (.cells #[.int .i64 17, .int .u32 7, .int .u32 1, .int .u32 0, .int .i64 0, .slice A8 nd c8] 64)
  unfold unitVal
  simp only
  clear hown8 hdec hown7
  have hsee := devSee_any w.heap.size a mb k _ _ hI8 hinv
  have hst2 : k.see.state = 2 := hst
  generalize k.see = em at hsee hst2
  obtain ⟨state, session, number, sent, since, latched, request, on, out⟩ := em
  simp only at hst2
  subst hst2
  go_wp2_with fail
  refine hsee.mono ?_
  rintro e w10 ⟨x10, rfl, hown10, hb10⟩
  have hb10' := hb9.trans (hb10.mono hb9.size)
  obtain ⟨A10, c10, rfl⟩ := own_slice hown10
  unfold endVal
  simp only
  go_wp2_with fail
  go_ret
  exact ⟨rfl, hb10'⟩
end Go.Proofs.YtlldgfejcjnpkaaGreat
