/- The base of the laws, part 25: contracts and plain lemmas, no statement. -/
import Derived.Test.YtlldgfejcjnpkaaGreatBase24
set_option linter.unusedVariables false
/- A device takes a unit: the last one, another one. -/
namespace Go.Proofs.YtlldgfejcjnpkaaGreat
open Go.RowKit
set_option maxHeartbeats 10000000
set_option maxRecDepth 100000

theorem devTake_last (B a mb : Nat) (m : DevM) (F : Nat → Prop) (code session number flags : Int) (data : List UInt8) (A : Option Addr) (cA Br : Nat) (w : World) (h : DTake B w a mb m F flags data A Br) :
    Calls Tryz.prog 104 #[.pointer (some ⟨a, 0, none⟩), .agg #[.int .i64 5, .int .u32 code, .int .u32 session, .int .u32 number, .int .i64 flags, .slice A data.length cA]] w fun e w' => DevAns B w a mb F (m.take ⟨5, code, session, number, flags, data⟩) e w' := by
  obtain ⟨q, Hq⟩ : ∃ q, Hid (q = m.take ⟨5, code, session, number, flags, data⟩) := ⟨_, Lib.hid rfl⟩
  rw [← Hq.out]
  have hI0 := h.is_
  have hb1 : Below w.heap.size w (w.alloc (.cells #[.int .i64 5, .int .u32 code, .int .u32 session, .int .u32 number, .int .i64 flags, .slice A data.length cA] 64)) := (Below.refl _ _).alloc (Nat.le_refl _) _
  have h1 := h.below hb1
  have hU := Blk.new w 64 #[.int .i64 5, .int .u32 code, .int .u32 session, .int .u32 number, .int .i64 flags, .slice A data.length cA]
  obtain ⟨⟨κ, c, d, v, g, val, hH, hF⟩, hlo⟩ := h.is_
  have hA1 := hH.below hb1
  unfold DevAns
  go_enter Tryz.func104, Tryz.ntmps104
  go_upto_region 1 with fail
  obtain ⟨u, Hu⟩ : ∃ e, Hid (e = w.heap.size) := ⟨_, Lib.hid rfl⟩
  rw [← Hu.out] at hU ⊢
  generalize w.alloc (.cells #[.int .i64 5, .int .u32 code, .int .u32 session, .int .u32 number, .int .i64 flags, .slice A data.length cA] 64) = W1 at *
  have hc := hA1.blk.cell
  unfold devCells at hc
  have huc := hU.cell
  have hnx := devNext_any B a mb m F 5 code session number flags (.slice A data.length cA) W1.drew (h1.is_.below (Below.refl W1.heap.size W1).drew)
  have hb1d := hb1.drew
  have hbA := hA1.drew.blk
  replace hU := hU.drew
  have hul := hU.lt
  have hal := hbA.lt
  by_cases hnext : m.state = 4 ∧ session = m.session ∧ m.number < number
  · rw [decide_eq_true hnext] at hnx
    by_cases hn : number = m.p.count
    · have hq : q = ({ ({ (({ m with number := number } : DevM).alive).trip 80 with sent := m.p.count } : DevM).run false with state := 5 }, ({ (({ m with number := number } : DevM).alive).trip 80 with sent := m.p.count } : DevM).frame 21 m.p.count 0 [], 0) := by
        rw [Hq.out]; unfold DevM.take; rw [if_neg (by simp), if_neg (by dsimp only; omega), if_neg (by dsimp only; omega), if_neg (by dsimp only; omega), if_pos ⟨rfl, hnext.1, hnext.2.1, hnext.2.2, hn⟩]
      have Hq2 := Lib.hid hq
      have Hn := Lib.hid hn
      have Hnx := Lib.hid hnext
      have gn : (number == m.p.count) = true := by simpa using hn
      clear Hq hq hnext hn
      go_wp2_with fail
      go_region_held3 (fun w' => w'.cell? ⟨a, 1, none⟩ = some (.int .i64 m.p.out) ∧ w'.cell? ⟨a, 4, none⟩ = some (.int .u32 m.p.count) ∧ w'.cell? ⟨u, 0, none⟩ = some (.int .i64 5) ∧ w'.cell? ⟨u, 1, none⟩ = some (.int .u32 code) ∧ w'.cell? ⟨u, 2, none⟩ = some (.int .u32 session) ∧ w'.cell? ⟨u, 3, none⟩ = some (.int .u32 number) ∧ w'.cell? ⟨u, 4, none⟩ = some (.int .i64 flags) ∧ w'.cell? ⟨u, 5, none⟩ = some (.slice A data.length cA)) (with_reducible (first | exact devSU hbA hU)) (first
        | (go_at_call 149; refine hnx.mono ?_; rintro e W2 ⟨rfl, hbn⟩; replace hbA := hbA.below hbn hal; replace hU := hU.below hbn hul))
      all_goals
        have hb2 := hb1d.trans (hbn.mono hb1d.size)
        have h2 := h.below hb2
        have huc := hU.cell
        have hcall := devEnded_any B a mb m F 5 code session number flags (.slice A data.length cA) W2 h2.is_ h.inv Hnx.out.2.2 Hn.out h.len
        rw [← Hq2.out] at hcall
        go_wp2_with fail
        refine (hcall).mono ?_
        rintro e W4 h4
        obtain ⟨x5, rfl, ho5, t5⟩ := DevAns.of2 hI0 hb2 h4
        obtain ⟨A5, c5, rfl⟩ := own_slice ho5
        go_wp2_with fail
        refine bodyPost_ret (v := .tuple #[.slice A5 q.2.1.length c5, .int .i64 q.2.2]) (by simp [results, Tryz.results104, go_sem]) rfl ⟨_, rfl, ho5, t5⟩
    · have hq : q = m.odds 130 := by
        rw [Hq.out]; unfold DevM.take; rw [if_neg (by simp), if_neg (by dsimp only; omega), if_neg (by dsimp only; omega), if_neg (by dsimp only; omega), if_neg (by dsimp only; omega)]
      have gn : (number == m.p.count) = false := by simpa using hn
      clear Hq hnext
      go_wp2_with fail
      go_region_held3 (fun w' => w'.cell? ⟨a, 1, none⟩ = some (.int .i64 m.p.out) ∧ w'.cell? ⟨a, 4, none⟩ = some (.int .u32 m.p.count) ∧ w'.cell? ⟨u, 0, none⟩ = some (.int .i64 5) ∧ w'.cell? ⟨u, 1, none⟩ = some (.int .u32 code) ∧ w'.cell? ⟨u, 2, none⟩ = some (.int .u32 session) ∧ w'.cell? ⟨u, 3, none⟩ = some (.int .u32 number) ∧ w'.cell? ⟨u, 4, none⟩ = some (.int .i64 flags) ∧ w'.cell? ⟨u, 5, none⟩ = some (.slice A data.length cA)) (with_reducible (first | exact devSU hbA hU)) (first
        | (go_at_call 149; refine hnx.mono ?_; rintro e W2 ⟨rfl, hbn⟩; replace hbA := hbA.below hbn hal; replace hU := hU.below hbn hul))
      all_goals
        have hb2 := hb1d.trans (hbn.mono hb1d.size)
        have h2 := h.below hb2
        have huc := hU.cell
        have hcall := devOdds_any B a mb m F 130 W2 h2.is_ h.inv (by have := h.len; omega)
        rw [← hq] at hcall
        clear hq
        go_wp2_with fail
        refine (hcall).mono ?_
        rintro e W4 h4
        obtain ⟨x5, rfl, ho5, t5⟩ := DevAns.of2 hI0 hb2 h4
        obtain ⟨A5, c5, rfl⟩ := own_slice ho5
        go_wp2_with fail
        refine bodyPost_ret (v := .tuple #[.slice A5 q.2.1.length c5, .int .i64 q.2.2]) (by simp [results, Tryz.results104, go_sem]) rfl ⟨_, rfl, ho5, t5⟩
  · rw [decide_eq_false hnext] at hnx
    have hq : q = m.odds 130 := by
      rw [Hq.out]; unfold DevM.take; rw [if_neg (by simp), if_neg (by dsimp only; omega), if_neg (by dsimp only; omega), if_neg (by dsimp only; omega), if_neg (by dsimp only; omega)]
    clear Hq hnext
    go_wp2_with fail
    first
      | (go_region_law (go_simp; go_at_call 149; refine hnx.mono ?_; rintro e W2 ⟨rfl, hbn⟩; have hbA2 := hbA.below hbn hal; have hU2 := hU.below hbn hul; have hcA := hbA2.cell; unfold devCells at hcA; have huc2 := hU2.cell))
      | fail
    all_goals
      have hb2 := hb1d.trans (hbn.mono hb1d.size)
      have h2 := h.below hb2
      have hcall := devOdds_any B a mb m F 130 W2 h2.is_ h.inv (by have := h.len; omega)
      rw [← hq] at hcall
      clear hq
      go_wp2_with fail
      refine (hcall).mono ?_
      rintro e W4 h4
      obtain ⟨x5, rfl, ho5, t5⟩ := DevAns.of2 hI0 hb2 h4
      obtain ⟨A5, c5, rfl⟩ := own_slice ho5
      go_wp2_with fail
      refine bodyPost_ret (v := .tuple #[.slice A5 q.2.1.length c5, .int .i64 q.2.2]) (by simp [results, Tryz.results104, go_sem]) rfl ⟨_, rfl, ho5, t5⟩
theorem devTake_other (B a mb : Nat) (m : DevM) (F : Nat → Prop) (kind code session number flags : Int) (data : List UInt8) (A : Option Addr) (cA Br : Nat) (w : World) (h : DTake B w a mb m F flags data A Br) (hk : ¬ (kind = 1 ∨ kind = 2 ∨ kind = 3 ∨ kind = 4 ∨ kind = 5)) :
    Calls Tryz.prog 104 #[.pointer (some ⟨a, 0, none⟩), .agg #[.int .i64 kind, .int .u32 code, .int .u32 session, .int .u32 number, .int .i64 flags, .slice A data.length cA]] w fun e w' => DevAns B w a mb F (m.take ⟨kind, code, session, number, flags, data⟩) e w' := by
  obtain ⟨q, Hq⟩ : ∃ q, Hid (q = m.take ⟨kind, code, session, number, flags, data⟩) := ⟨_, Lib.hid rfl⟩
  rw [← Hq.out]
  have hI0 := h.is_
  have hb1 : Below w.heap.size w (w.alloc (.cells #[.int .i64 kind, .int .u32 code, .int .u32 session, .int .u32 number, .int .i64 flags, .slice A data.length cA] 64)) := (Below.refl _ _).alloc (Nat.le_refl _) _
  have h1 := h.below hb1
  have hU := Blk.new w 64 #[.int .i64 kind, .int .u32 code, .int .u32 session, .int .u32 number, .int .i64 flags, .slice A data.length cA]
  obtain ⟨⟨κ, c, d, v, g, val, hH, hF⟩, hlo⟩ := h.is_
  have hA1 := hH.below hb1
  unfold DevAns
  have hq : q = m.odds 130 := by
    rw [Hq.out]; unfold DevM.take; rw [if_neg (by dsimp only; omega), if_neg (by dsimp only; omega), if_neg (by dsimp only; omega), if_neg (by dsimp only; omega), if_neg (by dsimp only; omega)]
  have k1 : (kind == 1) = false := by simp; omega
  have k2 : (kind == 2) = false := by simp; omega
  have k3 : (kind == 3) = false := by simp; omega
  have k4 : (kind == 4) = false := by simp; omega
  have k5 : (kind == 5) = false := by simp; omega
  clear Hq hk
  go_enter Tryz.func104, Tryz.ntmps104
  go_upto_region 1 with fail
  obtain ⟨u, Hu⟩ : ∃ e, Hid (e = w.heap.size) := ⟨_, Lib.hid rfl⟩
  rw [← Hu.out] at hU ⊢
  generalize w.alloc (.cells #[.int .i64 kind, .int .u32 code, .int .u32 session, .int .u32 number, .int .i64 flags, .slice A data.length cA] 64) = W1 at *
  have hc := hA1.blk.cell
  unfold devCells at hc
  have huc := hU.cell
  have hcall := devOdds_any B a mb m F 130 W1 h1.is_ h.inv (by have := h.len; omega)
  rw [← hq] at hcall
  clear hq
  go_wp2_with fail
  refine (hcall).mono ?_
  rintro e W4 h4
  obtain ⟨x5, rfl, ho5, t5⟩ := DevAns.of2 hI0 hb1 h4
  obtain ⟨A5, c5, rfl⟩ := own_slice ho5
  go_wp2_with fail
  refine bodyPost_ret (v := .tuple #[.slice A5 q.2.1.length c5, .int .i64 q.2.2]) (by simp [results, Tryz.results104, go_sem]) rfl ⟨_, rfl, ho5, t5⟩
end Go.Proofs.YtlldgfejcjnpkaaGreat
/- A device takes any unit; reads a frame; receives it. -/
namespace Go.Proofs.YtlldgfejcjnpkaaGreat
open Go.RowKit
set_option maxHeartbeats 10000000
set_option maxRecDepth 100000

theorem unitFromHost_any (k : Int) (w : World) : Calls Tryz.prog 103 #[.int .i64 k] w fun e w' => e = .returned (.bool (isHost k)) ∧ w' = w := by
  by_cases h1 : 1 ≤ k
  · go_enter Tryz.func103, Tryz.ntmps103
    go_wp2_with fail
    go_ret
    exact ⟨by simp [isHost, h1], rfl⟩
  · go_enter Tryz.func103, Tryz.ntmps103
    go_wp2_with fail
    go_ret
    exact ⟨by simp [isHost]; omega, rfl⟩
theorem devTake_any (B a mb : Nat) (m : DevM) (F : Nat → Prop) (kind code session number flags : Int) (data : List UInt8) (A : Option Addr) (cA Br : Nat) (w : World) (h : DTake B w a mb m F flags data A Br) :
    Calls Tryz.prog 104 #[.pointer (some ⟨a, 0, none⟩), .agg #[.int .i64 kind, .int .u32 code, .int .u32 session, .int .u32 number, .int .i64 flags, .slice A data.length cA]] w fun e w' => DevAns B w a mb F (m.take ⟨kind, code, session, number, flags, data⟩) e w' := by
  by_cases hk : kind = 1 ∨ kind = 2 ∨ kind = 3 ∨ kind = 4 ∨ kind = 5
  · rcases hk with rfl | rfl | rfl | rfl | rfl
    · exact devTake_param B a mb m F code session number flags data A cA Br w h
    · exact devTake_echo B a mb m F code session number flags data A cA Br w h
    · exact devTake_start B a mb m F code session number flags data A cA Br w h
    · exact devTake_data B a mb m F code session number flags data A cA Br w h
    · exact devTake_last B a mb m F code session number flags data A cA Br w h
  · exact devTake_other B a mb m F kind code session number flags data A cA Br w h hk
theorem devRead_any (B a mb : Nat) (m : DevM) (F : Nat → Prop) (A : Option Addr) (n c Br : Nat) (l : List UInt8) (w : World) (h0 : DevIs B w a mb m F) (hi : m.Inv) (hlen : m.log.length < 1073741800) (hr : Reads w Br 1 A n (u8c l)) (hB : Br ≤ w.heap.size) (hc : n ≤ c) (hn : n ≤ 140737488351232) :
    Calls Tryz.prog 55 #[.pointer (some ⟨a, 0, none⟩), .slice A n c] w fun e w' => DevAns B w a mb F (m.read l) e w' := by
  obtain ⟨q, Hq⟩ : ∃ q, Hid (q = m.read l) := ⟨_, Lib.hid rfl⟩
  rw [← Hq.out]
  have Hq2 : Hid (q = if (decodeM l).2 ≠ 0 then (m, [], (decodeM l).2) else if !isHost (decodeM l).1.kind then (m, [], 43) else if (decodeM l).1.code ≠ m.p.code then (m, [], 44) else m.take (decodeM l).1) := Lib.hid Hq.out
  have hlw := fun h => (decode_lawful l h).1
  have hdec := unitDecode_any A n c Br l w hr hB hc hn
  generalize decodeM l = d at *
  clear Hq hr
  obtain ⟨⟨kind, code, session, number, flags, data⟩, er⟩ := d
  simp only at *
  have hlo := h0.lo
  unfold DevAns
  go_enter Tryz.func55, Tryz.ntmps55
  go_wp2_with fail
  refine hdec.mono ?_
  rintro e w1 ⟨v, rfl, hown, hb1⟩
  obtain ⟨Av, cv, rfl⟩ := own_slice hown
  unfold unitVal
  simp only
  have hbW := hb1.alloc hb1.size (.cells #[.int .i64 kind, .int .u32 code, .int .u32 session, .int .u32 number, .int .i64 flags, .slice Av data.length cv] 64)
  have hs1 := hb1.size
  by_cases he : er = 0
  · subst he
    have hl0 := hlw rfl
    have hd8 := UnitM.lawful_len hl0
    have hfl := lawful_flags hl0
    simp only at hd8 hfl
    have hr1 := (Reads.of_own hown).alloc (Nat.le_refl _) (.cells #[.int .i64 kind, .int .u32 code, .int .u32 session, .int .u32 number, .int .i64 flags, .slice Av data.length cv] 64)
    have hU1 := Blk.new w1 64 #[.int .i64 kind, .int .u32 code, .int .u32 session, .int .u32 number, .int .i64 flags, .slice Av data.length cv]
    have haf : ∀ ad, Av = some ad → ¬ F ad.block := fun ad e hx => by
      subst e
      have := (hown.lt ad.block rfl).1
      have := (hlo ad.block hx).2
      omega
    have Hq3 : Hid (q = if !isHost kind then (m, [], 43) else if code ≠ m.p.code then (m, [], 44) else m.take ⟨kind, code, session, number, flags, data⟩) := Lib.hid (by rw [Hq2.out]; simp)
    clear hlw hdec Hq2 hl0
    cases hdv : isHost kind with
    | false =>
      have e1 : q = (m, [], 43) := by rw [Hq3.out, hdv]; rfl
      subst e1
      go_wp2_with fail
      refine (unitFromHost_any kind _).mono ?_
      rw [hdv]
      rintro e w2 ⟨rfl, rfl⟩
      go_wp2_with fail
      exact bodyPost_ret (v := .tuple #[.slice none 0 0, .int .i64 43]) (by simp [results, Tryz.results55, go_sem]) rfl ⟨_, rfl, World.ownsRow_nil _ _ _ _, DevAp.nil_ (DevTo.ofBelow h0 hbW)⟩
    | true =>
      have Hq4 : Hid (q = if code ≠ m.p.code then (m, [], 44) else m.take ⟨kind, code, session, number, flags, data⟩) := Lib.hid (by rw [Hq3.out, hdv]; rfl)
      clear Hq3
      have hI1 := h0.below hbW
      obtain ⟨⟨κ, c1, d, v, g, val, hA1, hF⟩, _⟩ := hI1
      go_wp2_with fail
      refine (unitFromHost_any kind _).mono ?_
      rw [hdv]
      rintro e w2 ⟨rfl, hW2⟩
      rw [← hW2] at hA1 hr1 hU1 hbW
      obtain ⟨u0, Hu0⟩ : ∃ e, Hid (e = w1.heap.size) := ⟨_, Lib.hid rfl⟩
      rw [← Hu0.out] at hU1 ⊢
      have hz2 : w1.heap.size ≤ w2.heap.size := by rw [hW2]; simp
      clear hW2
      have hc := hA1.blk.cell
      unfold devCells at hc
      have huc := hU1.cell
      by_cases hco : code = m.p.code
      · have Hq5 : Hid (q = m.take ⟨kind, code, session, number, flags, data⟩) := Lib.hid (by rw [Hq4.out, if_neg (by simpa using hco)])
        have gco : (code != m.p.code) = false := by simpa using hco
        clear hco Hq4
        go_wp2_with fail
        go_big_quiet (fail)
        have hb2 := belowN hbW nq
        have hU2 := hU1.drewN nq
        have hr2 := hr1.drewN nq
        have hz3 : w1.heap.size ≤ (w2.drewN nq).heap.size := hz2
        generalize w2.drewN nq = W3 at *
        clear hc huc hA1 hU1 hbW hr1 hz2
        have huc := hU2.cell
        have hcall := devTake_any B a mb m F kind code session number flags data Av cv w1.heap.size W3 ⟨h0.below hb2, hi, hlen, hr2, hz3, by omega, hfl, haf⟩
        rw [← Hq5.out] at hcall
        clear Hq5
        go_wp2_with fail
        refine hcall.mono ?_
        rintro e W4 h4
        obtain ⟨x5, rfl, ho5, t5⟩ := DevAns.of2 h0 hb2 h4
        obtain ⟨A5, c5, rfl⟩ := own_slice ho5
        go_wp2_with fail
        refine bodyPost_ret (v := .tuple #[.slice A5 q.2.1.length c5, .int .i64 q.2.2]) (by simp [results, Tryz.results55, go_sem]) rfl ⟨_, rfl, ho5, t5⟩
      · have e1 : q = (m, [], 44) := by rw [Hq4.out, if_pos hco]
        subst e1
        have gco : (code != m.p.code) = true := by simpa using hco
        go_wp2_with fail
        go_big_quiet (fail)
        go_wp2_with fail
        exact bodyPost_ret (v := .tuple #[.slice none 0 0, .int .i64 44]) (by simp [results, Tryz.results55, go_sem]) rfl ⟨_, rfl, World.ownsRow_nil _ _ _ _, DevAp.nil_ (DevTo.ofBelow h0 (belowN hbW _))⟩
  · have e1 : q = (m, [], er) := by rw [Hq2.out, if_pos he]
    subst e1
    have ge : (er != 0) = true := by simpa using he
    clear Hq2 hlw hdec
    go_wp2_with fail
    exact bodyPost_ret (v := .tuple #[.slice none 0 0, .int .i64 er]) (by simp [results, Tryz.results55, go_sem]) rfl ⟨_, rfl, World.ownsRow_nil _ _ _ _, DevAp.nil_ (DevTo.ofBelow h0 hbW)⟩
theorem dtake_log (m : DevM) (u : UnitM) : (m.take u).1.log.length ≤ m.log.length + 3 := by
  have hb : ∀ g : DevM, g.begin_.1.log.length ≤ g.log.length + 1 := by
    intro g
    unfold DevM.begin_
    generalize g.cell.next g.m = r
    obtain ⟨c, m', s, e⟩ := r
    simp only
    split
    · exact dtrip_log _ _
    · split
      · simp [DevM.life]
      · simp [DevM.leave]
  have hs := strange_log m
  unfold DevM.take
  split
  · split
    · unfold DevM.wish
      split
      · simp only
        split
        · have := hb m.strange.1; omega
        · split <;> (simp only; omega)
      · have := hb m; omega
    · unfold DevM.odds; simp only; omega
  split
  · split
    · unfold DevM.odds; simp only; omega
    · simp only
      split <;> simp [DevM.alive]
  split
  · simp only
    split <;> simp [DevM.alive, DevM.run]
  split
  · simp [DevM.alive]
  split
  · have := dtrip_log (({ m with number := u.number } : DevM).alive) 80
    simp only [DevM.run, DevM.alive] at this ⊢
    omega
  · unfold DevM.odds; simp only; omega
theorem dread_log (m : DevM) (l : List UInt8) : (m.read l).1.log.length ≤ m.log.length + 3 := by
  unfold DevM.read
  simp only
  split
  · simp
  split
  · simp
  split
  · simp
  · exact dtake_log m _
theorem devReceive_any (B a mb : Nat) (m : DevM) (F : Nat → Prop) (A : Option Addr) (n c Br : Nat) (l : List UInt8) (w : World) (h0 : DevIs B w a mb m F) (hi : m.Inv) (hlen : m.log.length < 1073741800) (hr : Reads w Br 1 A n (u8c l)) (hB : Br ≤ w.heap.size) (hc : n ≤ c) (hn : n ≤ 140737488351232) :
    Calls Tryz.prog 20 #[.pointer (some ⟨a, 0, none⟩), .slice A n c] w fun e w' => DevAns B w a mb F (m.receive l) e w' := by
  have hread := devRead_any B a mb m F A n c Br l w h0 hi hlen hr hB hc hn
  have hll := dread_log m l
  obtain ⟨q, Hq⟩ : ∃ q, Hid (q = m.receive l) := ⟨_, Lib.hid rfl⟩
  rw [← Hq.out]
  obtain ⟨⟨κ, c0, d, v, g, val, hH, hF⟩, hlo⟩ := id h0
  have hcc := hH.blk.cell
  unfold devCells at hcc
  unfold DevAns
  by_cases h6 : m.state = 6
  · have e1 : q = (m, [], 70) := by rw [Hq.out]; unfold DevM.receive; rw [if_pos h6]
    subst e1
    rw [h6] at hcc
    go_enter Tryz.func20, Tryz.ntmps20
    go_wp2_with fail
    exact bodyPost_ret (v := .tuple #[.slice none 0 0, .int .i64 70]) (by simp [results, Tryz.results20, go_sem]) rfl ⟨_, rfl, World.ownsRow_nil _ _ _ _, DevAp.nil_ (DevTo.refl h0)⟩
  · have g6 : (m.state == 6) = false := by simpa using h6
    have Hq2 : Hid (q = if (m.read l).2.2 = 0 ∨ (m.read l).2.2 = 70 then m.read l else ({ (m.read l).1 with log := noteM (m.read l).1.log (m.read l).2.2 (m.read l).1.session (m.read l).1.number }, (m.read l).2.1, (m.read l).2.2)) := Lib.hid (by rw [Hq.out]; unfold DevM.receive; rw [if_neg h6])
    clear Hq hr
    generalize m.read l = r at *
    obtain ⟨k, fr, er⟩ := r
    simp only at hread hll
    have Hq3 : Hid (q = if er = 0 ∨ er = 70 then (k, fr, er) else ({ k with log := noteM k.log er k.session k.number }, fr, er)) := Lib.hid Hq2.out
    clear Hq2
    by_cases he : er = 0
    · have e1 : q = (k, fr, er) := by rw [Hq3.out, if_pos (.inl he)]
      subst e1
      subst he
      go_enter Tryz.func20, Tryz.ntmps20
      go_wp2_with fail
      refine hread.mono ?_
      rintro e w1 ⟨x, rfl, hown, t1⟩
      obtain ⟨A1, c1, rfl⟩ := own_slice hown
      go_wp2_with fail
      exact bodyPost_ret (v := .tuple #[.slice A1 fr.length c1, .int .i64 0]) (by simp [results, Tryz.results20, go_sem]) rfl ⟨_, rfl, hown, t1⟩
    have ge : (er != 0) = true := by simpa using he
    by_cases h70 : er = 70
    · have e1 : q = (k, fr, er) := by rw [Hq3.out, if_pos (.inr h70)]
      subst e1
      subst h70
      go_enter Tryz.func20, Tryz.ntmps20
      go_wp2_with fail
      refine hread.mono ?_
      rintro e w1 ⟨x, rfl, hown, t1⟩
      obtain ⟨A1, c1, rfl⟩ := own_slice hown
      go_wp2_with fail
      exact bodyPost_ret (v := .tuple #[.slice A1 fr.length c1, .int .i64 70]) (by simp [results, Tryz.results20, go_sem]) rfl ⟨_, rfl, hown, t1⟩
    · have e1 : q = ({ k with log := noteM k.log er k.session k.number }, fr, er) := by rw [Hq3.out, if_neg (by omega)]
      subst e1
      have g70 : (er != 70) = true := by simpa using h70
      have hcod : (er == 0) = false := by simpa using he
      clear Hq3
      go_enter Tryz.func20, Tryz.ntmps20
      go_wp2_with fail
      refine hread.mono ?_
      rintro e w1 ⟨x, rfl, hown, t1⟩
      obtain ⟨A1, c1, rfl⟩ := own_slice hown
      obtain ⟨F1, hI1, hF1g, hF1x⟩ := t1.ap
      have hI1d := hI1.drew
      have hk1 := t1.too.keep
      obtain ⟨⟨κ1, c1', d1, v1, g1, val1, h1, hF1⟩, hlo1⟩ := id hI1d
      have hb1 := h1.blk
      have hlog := h1.log
      have hla : ¬ Of κ1 3 a := h1.ka.ne (by decide)
      clear hcc
      go_wp2_with fail
      go_region_held3 (fun w' => w'.cell? ⟨a, 10, none⟩ = some (.pointer (some ⟨g1, 0, none⟩)) ∧ w'.cell? ⟨a, 12, none⟩ = some (.int .u32 k.session) ∧ w'.cell? ⟨a, 13, none⟩ = some (.int .u32 k.number)) (exact ⟨(hb1.cell 10).trans rfl, (hb1.cell 12).trans rfl, (hb1.cell 13).trans rfl⟩) (first
        | (go_at_call 56; refine (diagNote_any g1 k.log _ er k.session k.number _ hcod hlog (by omega)).mono ?_; rintro e W ⟨rfl, hl2, hk2⟩; replace hb1 := hb1.keep hk2 hla))
      all_goals
        go_wp2_with fail
        have t2 := h1.toLog hI1d hF1 hl2 hk2 (fun x hx => hx)
        have hs1 := hk1.size
        have hs2 := t2.keep.size
        have e1 : w1.drew.heap.size = w1.heap.size := rfl
        have hown2 : W.ownsRow w.heap.size 5 1 (.slice A1 fr.length c1) fr.length (u8c fr) := ownsRow_keep hown.drew t2.keep (fun x hx hg => hF1x x hx hg)
        have hT : DevTo B w a mb { k with log := noteM k.log er k.session k.number } F W := by
          obtain ⟨⟨κ2, c2, d2, v2, g2, val2, h2, hF2⟩, _⟩ := t2.is_
          refine ⟨⟨⟨κ2, c2, d2, v2, g2, val2, h2, fun x hx => ?_⟩, grow_fb h0.lo h0.Ble (by omega)⟩, hk1.drew.andThen t2.keep (fun x hl hx => (hF1g x hx).elim id (fun h => by omega))⟩
          rcases hF2 x hx with hx | hx
          · exact (hF1g x hx).imp id (fun h => ⟨h.1, by omega⟩)
          · exact .inr ⟨by omega, hx.2⟩
        refine bodyPost_ret (v := .tuple #[.slice A1 fr.length c1, .int .i64 er]) (by simp [results, Tryz.results20, go_sem]) rfl ⟨_, rfl, hown2, hT, _, t2.is_, fun y hy => ?_, fun y hy hg => ?_⟩
        · rcases hy with hy | hy
          · exact (hF1g y hy).imp id (fun h => ⟨h.1, by omega⟩)
          · exact .inr ⟨by omega, hy.2⟩
        · rcases hg with hg | hg
          · exact hF1x y hy hg
          · have := (hown.lt y hy).2; omega
end Go.Proofs.YtlldgfejcjnpkaaGreat
