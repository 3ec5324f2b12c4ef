/- param's functions by their contracts. -/
import Derived.Test.YtdiogamcjihejaaGreatUnitB
import Derived.Deep.RegionHeld3
namespace Go.Proofs.YtdiogamcjihejaaGreat
open Go.RowKit
set_option maxHeartbeats 10000000
set_option maxRecDepth 100000

def parVal (p : ParM) : Value := .agg #[.int .u32 p.code, .int .i64 p.out, .int .i64 p.inn, .int .i64 p.watch, .int .u32 p.count]
structure ParM.Ok (p : ParM) : Prop where
  code : 0 ≤ p.code ∧ p.code < 4294967296
  count : 0 ≤ p.count ∧ p.count < 4294967296
theorem paramCheck_any (p : ParM) (w : World) : Calls Tryz.prog 70 #[parVal p] w fun e w' => e = .returned (.int .i64 (if p.lawful then 0 else 90)) ∧ Below w.heap.size w w' := by
  obtain ⟨code, out, inn, watch, count⟩ := p
  have hb : ∀ cs t, Below w.heap.size w (w.alloc (.cells cs t)) := fun cs t => (Below.refl _ _).alloc (Nat.le_refl _) _
  obtain ⟨law, Hlaw⟩ : ∃ b, Hid (b = (ParM.mk code out inn watch count).lawful) := ⟨_, Lib.hid rfl⟩
  rw [← Hlaw.out]
  have Hl2 : Hid (law = decide (code ≠ 0 ∧ 1 ≤ out ∧ out ≤ 8 ∧ 1 ≤ inn ∧ inn ≤ 8 ∧ 1 ≤ watch ∧ watch ≤ 1048576 ∧ 2 ≤ count)) := Lib.hid Hlaw.out
  clear Hlaw
  unfold parVal
  simp only
  have no : ∀ (q : Prop) [Decidable q], (law = decide q) → ¬ q → law = false := fun q _ h hn => by rw [h]; simpa using hn
  by_cases h1 : code = 0
  · have hl := no _ Hl2.out (by omega)
    subst hl h1
    go_enter Tryz.func70, Tryz.ntmps70
    go_wp2_with fail
    go_ret
    exact ⟨rfl, hb _ _⟩
  have g1 : (code == 0) = false := by simpa using h1
  by_cases h2 : out < 1
  · have hl := no _ Hl2.out (by omega)
    subst hl
    go_enter Tryz.func70, Tryz.ntmps70
    go_wp2_with fail
    go_ret
    exact ⟨rfl, hb _ _⟩
  by_cases h3 : 8 < out
  · have hl := no _ Hl2.out (by omega)
    subst hl
    go_enter Tryz.func70, Tryz.ntmps70
    go_wp2_with fail
    go_ret
    exact ⟨rfl, hb _ _⟩
  by_cases h4 : inn < 1
  · have hl := no _ Hl2.out (by omega)
    subst hl
    go_enter Tryz.func70, Tryz.ntmps70
    go_wp2_with fail
    go_ret
    exact ⟨rfl, hb _ _⟩
  by_cases h5 : 8 < inn
  · have hl := no _ Hl2.out (by omega)
    subst hl
    go_enter Tryz.func70, Tryz.ntmps70
    go_wp2_with fail
    go_ret
    exact ⟨rfl, hb _ _⟩
  by_cases h6 : watch < 1
  · have hl := no _ Hl2.out (by omega)
    subst hl
    go_enter Tryz.func70, Tryz.ntmps70
    go_wp2_with fail
    go_ret
    exact ⟨rfl, hb _ _⟩
  by_cases h7 : 1048576 < watch
  · have hl := no _ Hl2.out (by omega)
    subst hl
    go_enter Tryz.func70, Tryz.ntmps70
    go_wp2_with fail
    go_ret
    exact ⟨rfl, hb _ _⟩
  by_cases h8 : count < 2
  · have hl := no _ Hl2.out (by omega)
    subst hl
    go_enter Tryz.func70, Tryz.ntmps70
    go_wp2_with fail
    go_ret
    exact ⟨rfl, hb _ _⟩
  · have hl : law = true := by rw [Hl2.out]; simp; omega
    subst hl
    go_enter Tryz.func70, Tryz.ntmps70
    go_wp2_with fail
    go_ret
    exact ⟨rfl, hb _ _⟩
theorem byte_pair {w : World} {g : Nat} {t : TypeId} {a b : Int} (h : Blk w g t #[Value.int .u8 (a % 256), .int .u8 (b % 256)]) : Reads w w.heap.size 1 (some ⟨g, 0, none⟩) 2 (u8c [byteOf a, byteOf b]) := by
  have hr := Reads.of_blk h (B := w.heap.size) (size := 1) (n := 2) h.lt rfl
  have e : u8c [byteOf a, byteOf b] = #[Value.int .u8 (a % 256), .int .u8 (b % 256)].toList := by
    simp only [u8c, List.map_cons, List.map_nil, byteOf_val]
  rw [e]
  exact hr
theorem paramEncode_any (p : ParM) (w : World) (ho : p.Ok) :
    Calls Tryz.prog 176 #[parVal p] w fun e w' => ∃ v, e = .returned (.tuple #[v, .int .i64 (if p.lawful then 0 else 90)]) ∧ w'.ownsRow w.heap.size 5 1 v (if p.lawful then p.bytes else []).length (u8c (if p.lawful then p.bytes else [])) ∧ Below w.heap.size w w' := by
  obtain ⟨i0, hi0, hz0, hz1, hz2⟩ := info_parts byte_info
  have hchk := paramCheck_any p
  cases hlaw : p.lawful with
  | false =>
    rw [hlaw] at hchk
    unfold parVal at *
    go_enter Tryz.func176, Tryz.ntmps176
    go_wp2_with fail
    refine (hchk _).mono ?_
    rintro e w1 ⟨rfl, hb1⟩
    go_wp2_with fail
    refine bodyPost_ret (v := .tuple #[.slice none 0 0, .int .i64 90]) (by simp [results, Tryz.results176, go_sem]) rfl ⟨_, rfl, World.ownsRow_nil _ _ _ _, ((Below.refl _ _).alloc (Nat.le_refl _) _).trans (hb1.mono (by simp))⟩
  | true =>
    rw [hlaw] at hchk
    obtain ⟨bs, Hbs⟩ : ∃ b, Hid (b = p.bytes) := ⟨_, Lib.hid rfl⟩
    simp only [if_true]
    rw [← Hbs.out]
    have Hw : Hid (0 ≤ p.watch ∧ p.watch < 4294967296) := Lib.hid (by
      simp [ParM.lawful] at hlaw
      omega)
    obtain ⟨code, hcode⟩ := word_ex ho.code
    obtain ⟨count, hcount⟩ := word_ex ho.count
    obtain ⟨code', out, inn, watch, count'⟩ := p
    simp only at *
    subst hcode hcount
    obtain ⟨wt, hwt⟩ := word_ex Hw.out
    have Hb2 : Hid (bs = (wordOf code ++ [byteOf out, byteOf inn]) ++ wordOf wt ++ wordOf count) := Lib.hid (by
      rw [Hbs.out]
      unfold ParM.bytes
      simp only
      rw [hwt, wordBytes_nat, wordBytes_nat, wordBytes_nat])
    clear Hbs Hw hlaw ho
    subst hwt
    unfold parVal at *
    simp only at *
    go_enter Tryz.func176, Tryz.ntmps176
    go_wp2_with fail
    refine (hchk _).mono ?_
    rintro e w1 ⟨rfl, hb1⟩
    have hB1 := (Blk.new w 30 #[u32v code, .int .i64 out, .int .i64 inn, .int .i64 (wt.toNat : Int), u32v count]).below hb1 (by simp)
    have hb1' : Below w.heap.size w w1 := ((Below.refl _ _).alloc (Nat.le_refl _) _).trans (hb1.mono (by simp))
    have hn1 := hb1'.size
    have hlt1 := hB1.lt
    have hc1 := hB1.cell
    clear hb1 hchk
    go_wp2_with fail
    refine (paramWord_any (.slice none 0 0) 0 [] code w1.heap.size w1 (World.ownsRow_nil _ _ _ _) (Nat.le_refl _) (by omega)).mono ?_
    rintro e w2 ⟨v2, rfl, hown2, hb2⟩
    obtain ⟨A2, c2, rfl⟩ := own_slice hown2
    have hB2 := hB1.below hb2 hlt1
    have hc2 := hB2.cell
    have hb2' := hb1'.trans (hb2.mono hn1)
    have hn2 := hb2.size
    have hl2 := hown2.lt
    clear hc1
    go_wp2_with (at_builtin; refine wpList_append_any _ rfl (.tmp 14) (.tmp 21) _ rfl w1.heap.size 5 i0 _ 1 1 Tryz.underlying22 hi0 hz0 hz1 hz2 rfl (by omega) (.slice A2 4 c2) 4 (u8c ([] ++ wordOf code)) rfl (hown2.alloc _) (w2.heap.size + 1) (some ⟨w2.heap.size, 0, none⟩) 2 2 (u8c [byteOf out, byteOf inn]) rfl (by simpa using byte_pair (Blk.new w2 5 _)) (u8c_one _) (by unfold maxLen; omega) (by omega) (by simp; omega) ?_; intro v3 w3 hown3 hg3 hat3)
    have hB3 := (hB2.alloc _).grown hg3 (fun h => by have := (hl2 _ h).1; omega)
    have hs3 := hg3.size
    have hsz : w1.heap.size ≤ w3.heap.size := by simp at hs3; omega
    have hbW := (hb2'.alloc hb2'.size _).grown hg3 (by have := hb2'.size; simp; omega) (fun k hk => by have := (hl2 k hk).1; omega)
    rw [← u8c_append] at hown3
    obtain ⟨A3, c3, rfl⟩ := own_slice hown3
    have hwt : IntKind.u32.wrap (wt.toNat : Int) = (wt.toNat : Int) := by have := wt.isLt; exact IntWalk.u32_in _ (by omega)
    have hwt2 : (wt.toNat : Int) % 4294967296 = (wt.toNat : Int) := by have := wt.isLt; omega
    clear hB2 hc2 hb2' hown2 hl2 hg3 hat3 hs3 hb2 hn2 hB1 hb1'
    replace hown3 := own_below hown3 (Below.refl _ _).drew
    replace hB3 := hB3.drew
    replace hbW := hbW.drew
    replace hsz : w1.heap.size ≤ w3.drew.heap.size := hsz
    go_region_held3 (fun w' => w'.cell? ⟨w.heap.size, 3, none⟩ = some (.int .i64 (wt.toNat : Int)) ∧ w'.cell? ⟨w.heap.size, 4, none⟩ = some (u32v count)) (exact ⟨(hB3.cell 3).trans rfl, (hB3.cell 4).trans rfl⟩) (first
      | (go_at_call 178; refine (paramWord_any _ _ _ _ w1.heap.size _ hown3 hsz (by omega)).mono ?_; rintro e W ⟨v, rfl, hownN, hbe⟩; clear hown3; have hown3 := hownN; clear hownN; obtain ⟨Av, cv, rfl⟩ := own_slice hown3; replace hsz := Nat.le_trans hsz hbe.size; replace hB3 := hB3.below hbe hlt1; replace hbW := hbW.trans (hbe.mono hn1); clear hbe))
    go_wp2_with fail
    refine bodyPost_ret (v := .tuple #[.slice Av 14 cv, .int .i64 0]) (by simp [results, Tryz.results176, go_sem]) rfl ⟨_, rfl, ?_, hbW⟩
    rw [Hb2.out]
    have hlen : ((wordOf code ++ [byteOf out, byteOf inn]) ++ wordOf wt ++ wordOf count).length = 14 := by simp [wordOf]
    rw [hlen]
    exact own_base hown3 hn1
theorem paramSignature_any (p : ParM) (w : World) (ho : p.Ok) (hl : p.lawful = true) :
    Calls Tryz.prog 127 #[parVal p] w fun e w' => e = .returned (.tuple #[u32v (crcOf 0#32 p.bytes), .int .i64 0]) ∧ Below w.heap.size w w' := by
  have henc := fun w => paramEncode_any p w ho
  obtain ⟨bs, Hbs⟩ : ∃ b, Hid (b = p.bytes) := ⟨_, Lib.hid rfl⟩
  rw [hl] at henc
  simp only [if_true] at henc
  rw [← Hbs.out] at henc ⊢
  have hlen : bs.length = 14 := by rw [Hbs.out]; simp [ParM.bytes, wordBytes, wordOf]
  rw [hlen] at henc
  have Hlen := Lib.hid hlen
  clear hlen hl ho
  obtain ⟨code, out, inn, watch, count⟩ := p
  unfold parVal at *
  simp only at *
  go_enter Tryz.func127, Tryz.ntmps127
  go_wp2_with fail
  refine (henc _).mono ?_
  rintro e w1 ⟨v, rfl, hown, hb1⟩
  obtain ⟨A, c, rfl⟩ := own_slice hown
  have hb1' : Below w.heap.size w w1 := ((Below.refl _ _).alloc (Nat.le_refl _) _).trans (hb1.mono (by simp))
  go_wp2_with fail
  refine (crcBits_any A 14 c bs _ w1 (Reads.of_own hown) (by omega)).mono ?_
  rintro e w2 ⟨rfl, rfl⟩
  go_wp2_with fail
  refine bodyPost_ret (v := .tuple #[u32v (crcOf 0#32 bs), .int .i64 0]) (by simp [results, Tryz.results127, go_sem]) rfl ⟨rfl, hb1'⟩
theorem paramBytes_any (s : BitVec 32) (w : World) : Calls Tryz.prog 128 #[u32v s] w fun e w' => ∃ v, e = .returned v ∧ w'.ownsRow w.heap.size 5 1 v 4 (u8c (wordOf s)) ∧ Below w.heap.size w w' := by
  go_enter Tryz.func128, Tryz.ntmps128
  go_wp2_with fail
  refine (paramWord_any (.slice none 0 0) 0 [] s w.heap.size w (World.ownsRow_nil _ _ _ _) (Nat.le_refl _) (by omega)).mono ?_
  rintro e w2 ⟨v2, rfl, hown2, hb2⟩
  go_wp2_with fail
  go_ret
  exact ⟨_, rfl, hown2, hb2⟩
theorem sign_iff (p : ParM) (a b c d : UInt8) : ([a, b, c, d] = p.sign) ↔ ofWord a b c d = crcOf 0#32 p.bytes := ofWord_inj.symm
theorem paramMatch_any (p : ParM) (A : Option Addr) (n c B : Nat) (l : List UInt8) (w : World) (ho : p.Ok) (hl : p.lawful = true) (hr : Reads w B 1 A n (u8c l)) (hB : B ≤ w.heap.size) (hn : n ≤ 1000) :
    Calls Tryz.prog 184 #[parVal p, .slice A n c] w fun e w' => e = .returned (.tuple #[.bool (decide (l = p.sign)), .int .i64 0]) ∧ Below w.heap.size w w' := by
  have hlen : l.length = n := by have := hr.1; simpa [u8c] using this
  have hsig := fun w => paramSignature_any p w ho hl
  obtain ⟨ok, Hok⟩ : ∃ b, Hid (b = decide (l = p.sign)) := ⟨_, Lib.hid rfl⟩
  rw [← Hok.out]
  have Hs := Lib.hid (sign_iff p)
  have hsl : p.sign.length = 4 := by simp [ParM.sign, wordOf]
  have hno : n ≠ 4 → ok = false := fun h => by
    rw [Hok.out]
    simp only [decide_eq_false_iff_not]
    intro e
    rw [e, hsl] at hlen
    exact h hlen.symm
  have hyes : ∀ a b c d, l = [a, b, c, d] → ok = decide (ofWord a b c d = crcOf 0#32 p.bytes) := fun a b c d e => by
    rw [Hok.out, e]
    exact decide_eq_decide.2 (sign_iff p a b c d)
  clear Hok Hs hsl hl ho
  generalize crcOf 0#32 p.bytes = sg at *
  obtain ⟨code, out, inn, watch, count⟩ := p
  unfold parVal at *
  simp only at *
  by_cases h4 : n = 4
  · subst h4
    obtain ⟨ad, rfl⟩ : ∃ ad, A = some ad := by
      obtain ⟨ad, h, _⟩ := hr.2 (by omega)
      exact ⟨ad, h⟩
    obtain ⟨a, b, c', d, rfl⟩ : ∃ a b c d, l = [a, b, c, d] := by
      match l, hlen with
      | [a, b, c, d], _ => exact ⟨a, b, c, d, rfl⟩
    have hok := hyes _ _ _ _ rfl
    clear hyes hno hlen
    go_enter Tryz.func184, Tryz.ntmps184
    go_wp2_with fail
    refine (hsig _).mono ?_
    rintro e w1 ⟨rfl, hb1⟩
    have hb1' : Below w.heap.size w w1 := ((Below.refl _ _).alloc (Nat.le_refl _) _).trans (hb1.mono (by simp))
    obtain ⟨ad', e', hbd, hcell⟩ := (hr.below (hb1'.mono hB)).2 (by omega)
    injection e' with e'
    subst e'
    go_wp2_with fail
    refine (paramNumber_any ad 4 c a b c' d w1 (by omega) (hcell 0 _ rfl) (hcell 1 _ rfl) (hcell 2 _ rfl) (hcell 3 _ rfl)).mono ?_
    rintro e w2 ⟨rfl, k, rfl⟩
    go_wp2_with fail
    have hq : (((ofWord a b c' d).toNat : Int) == (sg.toNat : Int)) = ok := by
      rw [hok, Bool.eq_iff_iff]
      simp only [beq_iff_eq, decide_eq_true_eq]
      constructor
      · intro h
        apply BitVec.eq_of_toNat_eq
        omega
      · intro h
        rw [h]
    refine bodyPost_ret (v := .tuple #[.bool ok, .int .i64 0]) (by simp [results, Tryz.results184, go_sem, hq]) rfl ⟨rfl, belowN hb1' k⟩
  · have hok := hno h4
    subst hok
    have g4 : ((n : Int) == 4) = false := by simp; omega
    clear hno hyes
    go_enter Tryz.func184, Tryz.ntmps184
    go_wp2_with fail
    refine (hsig _).mono ?_
    rintro e w1 ⟨rfl, hb1⟩
    go_wp2_with fail
    refine bodyPost_ret (v := .tuple #[.bool false, .int .i64 0]) (by simp [results, Tryz.results184, go_sem]) rfl ⟨rfl, ((Below.refl _ _).alloc (Nat.le_refl _) _).trans (hb1.mono (by simp))⟩
end Go.Proofs.YtdiogamcjihejaaGreat
