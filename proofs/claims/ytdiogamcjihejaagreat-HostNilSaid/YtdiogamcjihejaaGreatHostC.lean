/- A host's compose. -/
import Derived.Test.YtdiogamcjihejaaGreatHostB
import Derived.Test.YtdiogamcjihejaaGreatParam
import Derived.Test.YtdiogamcjihejaaGreatUnitC
namespace Go.Proofs.YtdiogamcjihejaaGreat
open Go.RowKit
set_option maxHeartbeats 10000000
set_option maxRecDepth 100000

/-- What always holds of a host. -/
structure HostM.Inv (m : HostM) : Prop where
  pok : m.p.Ok
  plaw : m.p.lawful = true
  session : 0 ≤ m.session ∧ m.session < 4294967296
  number : 0 ≤ m.number ∧ m.number < 4294967296
  sent : 0 ≤ m.sent ∧ m.sent < 4294967296
  state : 1 ≤ m.state ∧ m.state ≤ 5
  missed : 0 ≤ m.missed ∧ m.missed ≤ 3
  since : 0 ≤ m.since ∧ m.since ≤ m.p.watch
  run : m.state = 4 → m.sent < m.p.count
  value : (m.value.length : Int) = m.p.out
  vval : ∀ b, m.valve.value = some b → (b.length : Int) = m.p.inn
theorem HostAt.keepS {B : Nat} {w w' : World} {a d v g : Nat} {m : HostM} {F FV FL S : Nat → Prop} {val : Value} (h : HostAt B w a m F d v g val FV FL) (hk : Keep S w w') (hS : ∀ x, F x → ¬ S x) : HostAt B w' a m F d v g val FV FL where
  blk := h.blk.keep hk (hS _ h.fa)
  dog := Blk.keep h.dog hk (hS _ h.fd)
  valve := h.valve.keep hk (fun x hx => hS _ (h.fV x hx)) (fun _ h => h)
  log := h.log.keep hk (fun x hx => hS _ (h.fL x hx)) (fun _ h => h)
  value := ownsRow_keep h.value hk (fun x hx => hS _ (h.fx x hx))
  fa := h.fa
  fd := h.fd
  fV := h.fV
  fL := h.fL
  fx := h.fx
  fb := fun x hx => by have := h.fb x hx; have := hk.size; omega
  va := h.va
  la := h.la
  vl := h.vl
  xv := h.xv
theorem unitEncode_at (k c s n f : Int) (data : List UInt8) (A : Option Addr) (len cap B : Nat) (w : World) (hlen : data.length = len) (hc : 0 ≤ c ∧ c < 4294967296) (hs : 0 ≤ s ∧ s < 4294967296) (hn : 0 ≤ n ∧ n < 4294967296) (hr : Reads w B 1 A len (u8c data)) (hB : B ≤ w.heap.size) :
    Calls Tryz.prog 131 #[.agg #[.int .i64 k, .int .u32 c, .int .u32 s, .int .u32 n, .int .i64 f, .slice A len cap]] w fun e w' => ∃ v er, e = .returned (.tuple #[v, .int .i64 er]) ∧ w'.ownsRow w.heap.size 5 1 v (UnitM.mk k c s n f data).encode.length (u8c (UnitM.mk k c s n f data).encode) ∧ Below w.heap.size w w' := by
  subst hlen
  refine (unitEncode_any ⟨k, c, s, n, f, data⟩ A cap B w ⟨hc, hs, hn⟩ hr hB).mono ?_
  rintro e w' ⟨v, rfl, h1, h2⟩
  exact ⟨v, _, rfl, h1, h2⟩
theorem Reads.far {w : World} {B size n : Nat} {A : Option Addr} {xs : List Value} (h : Reads w B size A n xs) {p : Addr} (hA : ∀ ad, A = some ad → ad.block ≠ p.block) (q : Value) : Reads (w.setCell p q) B size A n xs := by
  refine ⟨h.1, fun hn => ?_⟩
  obtain ⟨ad, e, hlt, hcl⟩ := h.2 hn
  refine ⟨ad, e, hlt, fun j y hy => ?_⟩
  rw [World.cell?_setCell_other _ _ _ _ (fun e2 => hA ad e (by rw [← block_of_add ad j, ← e2]))]
  exact hcl j y hy
theorem own_off {w : World} {base n c size u : Nat} {e : TypeId} {A : Option Addr} {xs : List Value} (h : w.ownsRow base e size (.slice A n c) n xs) (hu : u < base) : ∀ ad, A = some ad → ad.block ≠ u := by
  intro x hx e
  subst hx
  rcases h.2 with ⟨hy, _⟩ | ⟨g', _, _, hy, hg', _⟩
  · injection hy with hy; cases hy
  · injection hy with hy
    injection hy with hy
    subst hy
    simp at e
    omega
theorem hostS2 {w : World} {a d v g : Nat} {m : HostM} {val : Value} (h : Blk w a 117 (hostCells m d v g val)) :
    w.cell? ⟨a, 0, none⟩ = some (.int .u32 m.p.code) ∧ w.cell? ⟨a, 9, none⟩ = some (.int .u32 m.session) := ⟨(h.cell 0).trans rfl, (h.cell 9).trans rfl⟩
theorem Blk.farU {w : World} {g u : Nat} {t : TypeId} {cs : Array Value} (h : Blk w g t cs) (hne : u ≠ g) (i : Nat) (q : Value) : Blk (w.setCell ⟨u, i, none⟩ q) g t cs := h.far (fun e => hne e.symm) q
theorem hostS3 {w : World} {a d v g : Nat} {m : HostM} {val : Value} (h : Blk w a 117 (hostCells m d v g val)) : w.cell? ⟨a, 14, none⟩ = some val := (h.cell 14).trans rfl
theorem hostCompose_any (B a : Nat) (m : HostM) (F : Nat → Prop) (w : World) (hH : HostIs B w a m F) (hi : m.Inv) (hlen : m.log.length < 1073741822) (h5 : m.state ≠ 5) :
    Calls Tryz.prog 75 #[.pointer (some ⟨a, 0, none⟩)] w fun e w' => ∃ x, e = .returned x ∧ w'.ownsRow w.heap.size 5 1 x m.compose.2.length (u8c m.compose.2) ∧ HostTo B w a m.compose.1 F w' := by
  obtain ⟨d, v, g, val, FV, FL, hH⟩ := hH
  have hb0 := hH.blk
  have hc := hb0.cell
  unfold hostCells at hc
  have hsig := fun w => paramSignature_any m.p w hi.pok hi.plaw
  unfold parVal at hsig
  obtain ⟨cm, Hcm⟩ : ∃ c, Hid (c = m.compose) := ⟨_, Lib.hid rfl⟩
  rw [← Hcm.out]
  go_enter Tryz.func75, Tryz.ntmps75
  go_wp2_with fail
  refine (hsig _).mono ?_
  rintro e w1 ⟨rfl, hb1⟩
  have h1 := hH.keepS (S := fun _ => False) (Keep.of_below hb1) (fun _ _ h => h)
  have hB1 := h1.blk
  clear hc hsig
  have hc := hB1.cell
  unfold hostCells at hc
  go_wp2_with fail
  go_region_held3 (fun w' => w'.cell? ⟨a, 0, none⟩ = some (.int .u32 m.p.code) ∧ w'.cell? ⟨a, 9, none⟩ = some (.int .u32 m.session)) (first | exact hostS2 hB1.drew | exact hostS2 (hB1.alloc _).drew) (fail)
  have hU := (Blk.new w1 60 #[.int .i64 0, .int .u32 m.p.code, .int .u32 m.session, .int .u32 0, .int .i64 0, .slice none 0 0]).drew
  have h2 := (h1.keepS (S := fun _ => False) ((Keep.refl _ w1).alloc (.cells #[.int .i64 0, .int .u32 m.p.code, .int .u32 m.session, .int .u32 0, .int .i64 0, .slice none 0 0] 60)) (fun _ _ h => h)).drew
  have hb2 : Below w.heap.size w (w1.alloc (.cells #[.int .i64 0, .int .u32 m.p.code, .int .u32 m.session, .int .u32 0, .int .i64 0, .slice none 0 0] 60)).drew := (hb1.alloc hb1.size _).drew
  have hs1 := hb1.size
  obtain ⟨u, Hu⟩ : ∃ u, Hid (u = w1.heap.size) := ⟨_, Lib.hid rfl⟩
  rw [← Hu.out] at hU hs1 ⊢
  have hul := hU.lt
  generalize (w1.alloc (.cells #[.int .i64 0, .int .u32 m.p.code, .int .u32 m.session, .int .u32 0, .int .i64 0, .slice none 0 0] 60)).drew = W2 at *
  clear hc hB1 h1 hb1
  have hB2 := h2.blk
  have hc := hB2.cell
  unfold hostCells at hc
  have huc := hU.cell
  have huf := hU.frozen
  have huF : ∀ x, F x → x ≠ u := fun x hx e => by have := (hH.fb x hx).2; omega
  have hsl : m.p.sign.length = 4 := by simp [ParM.sign, wordOf]
  by_cases s1 : m.state = 1
  · have hcm : cm = (m, (UnitM.mk 1 m.p.code 0 0 0 m.p.sign).encode) := by rw [Hcm.out]; unfold HostM.compose; rw [if_pos s1]; rfl
    subst hcm
    clear Hcm
    rw [s1] at hc
    go_wp2_with fail
    refine (paramBytes_any _ W2).mono ?_
    rintro e W3 ⟨v3, rfl, hown3, hb3⟩
    obtain ⟨A3, c3, rfl⟩ := own_slice hown3
    have hU3 := hU.below hb3 hul
    have hb3' := hb2.trans (hb3.mono hb2.size)
    have ho := own_off hown3 hul
    have hr3 := (((Reads.of_own hown3).far (p := ⟨u, 0, none⟩) ho (.int .i64 1)).far (p := ⟨u, 2, none⟩) ho (.int .u32 0)).far (p := ⟨u, 5, none⟩) ho (.slice A3 4 c3)
    have hb4 : Below w.heap.size w (((W3.setCell ⟨u, 0, none⟩ (.int .i64 1)).setCell ⟨u, 2, none⟩ (.int .u32 0)).setCell ⟨u, 5, none⟩ (.slice A3 4 c3)) := ((hb3'.setCell (p := ⟨u, 0, none⟩) hs1 _).setCell (p := ⟨u, 2, none⟩) hs1 _).setCell (p := ⟨u, 5, none⟩) hs1 _
    have hz4 : (((W3.setCell ⟨u, 0, none⟩ (.int .i64 1)).setCell ⟨u, 2, none⟩ (.int .u32 0)).setCell ⟨u, 5, none⟩ (.slice A3 4 c3)).heap.size = W3.heap.size := by simp [World.setCell]
    clear huc huf hc
    have huc := hU3.cell
    have huf := hU3.frozen
    go_wp2_with fail
    refine (unitEncode_at 1 m.p.code 0 0 0 m.p.sign A3 4 c3 W3.heap.size _ hsl hi.pok.code (by omega) (by omega) hr3 (by rw [hz4]; exact Nat.le_refl _)).mono ?_
    rintro e W5 ⟨v5, er, rfl, hown5, hb5⟩
    have hb5' := hb4.trans (hb5.mono hb4.size)
    go_wp2_with fail
    go_ret
    exact ⟨_, rfl, own_base hown5 hb4.size, hH.toIs (hH.keepS (S := fun _ => False) (Keep.of_below hb5') (fun _ _ h => h)) (fun x hx => .inl hx) (Keep.of_below hb5')⟩
  have g1 : (m.state == 1) = false := by simpa using s1
  by_cases s2 : m.state = 2
  · have hcm : cm = (m, (UnitM.mk 2 m.p.code m.session 0 0 m.p.sign).encode) := by rw [Hcm.out]; unfold HostM.compose; rw [if_neg s1, if_pos s2]; rfl
    subst hcm
    clear Hcm
    rw [s2] at hc
    go_wp2_with fail
    refine (paramBytes_any _ W2).mono ?_
    rintro e W3 ⟨v3, rfl, hown3, hb3⟩
    obtain ⟨A3, c3, rfl⟩ := own_slice hown3
    have hU3 := hU.below hb3 hul
    have hb3' := hb2.trans (hb3.mono hb2.size)
    have ho := own_off hown3 hul
    have hr3 := ((Reads.of_own hown3).far (p := ⟨u, 0, none⟩) ho (.int .i64 2)).far (p := ⟨u, 5, none⟩) ho (.slice A3 4 c3)
    have hb4 : Below w.heap.size w ((W3.setCell ⟨u, 0, none⟩ (.int .i64 2)).setCell ⟨u, 5, none⟩ (.slice A3 4 c3)) := (hb3'.setCell (p := ⟨u, 0, none⟩) hs1 _).setCell (p := ⟨u, 5, none⟩) hs1 _
    have hz4 : ((W3.setCell ⟨u, 0, none⟩ (.int .i64 2)).setCell ⟨u, 5, none⟩ (.slice A3 4 c3)).heap.size = W3.heap.size := by simp [World.setCell]
    clear huc huf hc
    have huc := hU3.cell
    have huf := hU3.frozen
    go_wp2_with fail
    refine (unitEncode_at 2 m.p.code m.session 0 0 m.p.sign A3 4 c3 W3.heap.size _ hsl hi.pok.code hi.session (by omega) hr3 (by rw [hz4]; exact Nat.le_refl _)).mono ?_
    rintro e W5 ⟨v5, er, rfl, hown5, hb5⟩
    have hb5' := hb4.trans (hb5.mono hb4.size)
    go_wp2_with fail
    go_ret
    exact ⟨_, rfl, own_base hown5 hb4.size, hH.toIs (hH.keepS (S := fun _ => False) (Keep.of_below hb5') (fun _ _ h => h)) (fun x hx => .inl hx) (Keep.of_below hb5')⟩
  have g2 : (m.state == 2) = false := by simpa using s2
  by_cases s3 : m.state = 3
  · have hcm : cm = (m, (UnitM.mk 3 m.p.code m.session 0 0 []).encode) := by rw [Hcm.out]; unfold HostM.compose; rw [if_neg s1, if_neg s2, if_pos s3]; rfl
    subst hcm
    clear Hcm
    rw [s3] at hc
    have hb4 : Below w.heap.size w (W2.setCell ⟨u, 0, none⟩ (.int .i64 3)) := hb2.setCell (p := ⟨u, 0, none⟩) hs1 _
    have hz4 : (W2.setCell ⟨u, 0, none⟩ (.int .i64 3)).heap.size = W2.heap.size := by simp [World.setCell]
    go_wp2_with fail
    refine (unitEncode_at 3 m.p.code m.session 0 0 [] none 0 0 0 _ rfl hi.pok.code hi.session (by omega) Reads.none_ (Nat.zero_le _)).mono ?_
    rintro e W5 ⟨v5, er, rfl, hown5, hb5⟩
    have hb5' := hb4.trans (hb5.mono hb4.size)
    go_wp2_with fail
    go_ret
    exact ⟨_, rfl, own_base hown5 hb4.size, hH.toIs (hH.keepS (S := fun _ => False) (Keep.of_below hb5') (fun _ _ h => h)) (fun x hx => .inl hx) (Keep.of_below hb5')⟩
  have g3 : (m.state == 3) = false := by simpa using s3
  have s4 : m.state = 4 := by have := hi.state; omega
  have hrun := hi.run s4
  have hcnt := hi.pok.count
  have hsent := hi.sent
  have hw1 : IntKind.u32.wrap (m.sent + 1) = m.sent + 1 := IntWalk.u32_in _ (by omega)
  have hA3 : HostAt B (W2.setCell ⟨a, 11, none⟩ (.int .u32 (m.sent + 1))) a { m with sent := m.sent + 1 } F d v g val FV FL :=
    h2.upd ((Keep.refl (fun x => x = a) W2).setCell (p := ⟨a, 11, none⟩) (fun _ => rfl) _) (by simp [World.setCell]) (by simpa [hostCells] using hB2.set_ 11 (.int .u32 (m.sent + 1))) rfl rfl rfl rfl rfl
  have hua : u ≠ a := fun e => huF a hH.fa e.symm
  have hU3 : Blk ((W2.setCell ⟨a, 11, none⟩ (.int .u32 (m.sent + 1))).setCell ⟨u, 3, none⟩ (.int .u32 (m.sent + 1))) u 60 #[.int .i64 0, .int .u32 m.p.code, .int .u32 m.session, .int .u32 (m.sent + 1), .int .i64 0, .slice none 0 0] := by
    simpa using (hU.far (p := ⟨a, 11, none⟩) hua (.int .u32 (m.sent + 1))).set_ 3 (.int .u32 (m.sent + 1))
  have hA4 := hA3.keepS ((Keep.refl (fun x => x = u) _).setCell (p := ⟨u, 3, none⟩) (fun _ => rfl) (.int .u32 (m.sent + 1))) huF
  have hk4 : Keep F w ((W2.setCell ⟨a, 11, none⟩ (.int .u32 (m.sent + 1))).setCell ⟨u, 3, none⟩ (.int .u32 (m.sent + 1))) := ((Keep.of_below hb2).setCell (p := ⟨a, 11, none⟩) (fun _ => hH.fa) _).setCell (p := ⟨u, 3, none⟩) (fun hx => by simp at hx; omega) _
  have hcf := hB2.frozen
  go_wp2_with fail
  have hul4 := hU3.lt
  have hb4 : B ≤ w.heap.size := hH.Ble
  generalize (W2.setCell ⟨a, 11, none⟩ (.int .u32 (m.sent + 1))).setCell ⟨u, 3, none⟩ (.int .u32 (m.sent + 1)) = W4 at *
  clear huc huf hc hcf h2 hB2 hA3 hU hul hb2
  have hB4 := hA4.blk
  have hc := hB4.cell
  unfold hostCells at hc
  simp only at hc
  by_cases hq : m.sent + 1 = m.p.count
  · have hqb : (m.sent + 1 == m.p.count) = true := by simpa using hq
    go_big_quiet (fail)
    have hcm : cm = ({ (({ m with sent := m.sent + 1 } : HostM).trip 80).run false with state := 5 }, (UnitM.mk 5 m.p.code m.session m.p.count 0 []).encode) := by
      rw [Hcm.out]
      unfold HostM.compose
      rw [if_neg s1, if_neg s2, if_neg s3]
      simp only
      rw [if_pos hq]
      refine Prod.ext rfl ?_
      show (UnitM.mk 5 m.p.code m.session (m.sent + 1) 0 []).encode = _
      rw [hq]
    have hA5 := hA4.keepS (S := fun _ => False) ((Keep.refl _ W4).drewN nq) (fun _ _ h => h)
    have hU5 := hU3.drewN nq
    have hk5 := hk4.drewN nq
    have hul5 : u < (W4.drewN nq).heap.size := hul4
    generalize W4.drewN nq = W5 at *
    clear hc hB4 hA4 hU3 hk4 hul4
    have hA6 := hA5.keepS ((Keep.refl (fun x => x = u) W5).setCell (p := ⟨u, 0, none⟩) (fun _ => rfl) (.int .i64 5)) huF
    have hU6 : Blk (W5.setCell ⟨u, 0, none⟩ (.int .i64 5)) u 60 #[.int .i64 5, .int .u32 m.p.code, .int .u32 m.session, .int .u32 (m.sent + 1), .int .i64 0, .slice none 0 0] := by simpa using hU5.set_ 0 (.int .i64 5)
    have hk6 : Keep F w (W5.setCell ⟨u, 0, none⟩ (.int .i64 5)) := hk5.setCell (p := ⟨u, 0, none⟩) (fun hx => by simp at hx; omega) _
    have huc := hU5.cell
    have huf := hU5.frozen
    go_wp2_with fail
    have hul6 := hU6.lt
    generalize W5.setCell ⟨u, 0, none⟩ (.int .i64 5) = W6 at *
    clear huc huf hA5 hU5 hk5 hul5
    refine (hostTrip_any B a { m with sent := m.sent + 1 } F 80 W6 (by decide) ⟨d, v, g, val, FV, FL, hA6⟩ (by simp only; omega)).mono ?_
    rintro e W7 ⟨rfl, t7⟩
    obtain ⟨d7, v7, g7, val7, FV7, FL7, h7⟩ := t7.is_
    have hk7 := t7.keep
    have hs7 := hk7.size
    have hU7 := hU6.keep hk7 (fun e => huF u e rfl)
    have huF7 : ∀ x, grow F W6 W7 x → x ≠ u := fun x hx e => hx.elim (fun hx => huF x hx e) (fun hx => by omega)
    have hc7 := h7.blk.cell
    unfold hostCells at hc7
    go_wp2_with fail
    refine (valveRun_any v7 _ _ FV7 false W7 h7.valve).mono ?_
    rintro e W8 ⟨rfl, hv8, hk8, hs8⟩
    have h8 := h7.onValve hv8 hk8 (fun x hx => .inl hx)
    have hU8 := hU7.keep hk8 (fun e => huF7 u (h7.fV u e) rfl)
    have Hs8 := Lib.hid hs8
    clear hc7 hs8
    have hB8 := h8.blk
    have hc8 := hB8.cell
    have hf8 := hB8.frozen
    have h9 : HostAt B (W8.setCell ⟨a, 8, none⟩ (.int .i64 5)) a { (({ m with sent := m.sent + 1 } : HostM).trip 80).run false with state := 5 } (grow (grow F W6 W7) W7 W8) d7 v7 g7 val7 FV7 FL7 :=
      h8.upd ((Keep.refl (fun x => x = a) W8).setCell (p := ⟨a, 8, none⟩) (fun _ => rfl) _) (by simp [World.setCell]) (by simpa [hostCells, HostM.run] using hB8.set_ 8 (.int .i64 5)) rfl rfl rfl rfl rfl
    have hU9 := hU8.far (p := ⟨a, 8, none⟩) hua (.int .i64 5)
    have huc := hU9.cell
    unfold hostCells at hc8
    have hz9 : (W8.setCell ⟨a, 8, none⟩ (.int .i64 5)).heap.size = W8.heap.size := by simp [World.setCell]
    have huc8 := hU8.cell
    go_wp2_with fail
    refine (unitEncode_at 5 m.p.code m.session m.p.count 0 [] none 0 0 0 _ rfl hi.pok.code hi.session hi.pok.count Reads.none_ (Nat.zero_le _)).mono ?_
    rintro e W10 ⟨v10, er, rfl, hown10, hb10⟩
    have h10 := h9.keepS (S := fun _ => False) (Keep.of_below hb10) (fun _ _ h => h)
    go_wp2_with fail
    go_ret
    have hs10 := hb10.size
    have hs8 := Hs8.out
    have hs6 := hk6.size
    have hkz : Keep F w W10 := ((((hk6.andThen hk7 (fun _ _ h => h)).andThen hk8 (fun x hx hg => (h7.fV x hg).elim id (fun hg => by omega))).setCell (p := ⟨a, 8, none⟩) (fun _ => hH.fa) _).andThen (S' := fun _ => False) (Keep.of_below hb10) (fun _ _ h => h.elim))
    subst hcm
    refine ⟨_, rfl, own_base hown10 (by omega), hH.toIs h10 (fun x hx => ?_) hkz⟩
    rcases hx with (hx | hx) | hx
    · exact .inl hx
    · exact .inr ⟨by omega, by omega⟩
    · exact .inr ⟨by omega, by omega⟩
  · have hqb : (m.sent + 1 == m.p.count) = false := by simpa using hq
    go_big_quiet (fail)
    have hcm : cm = ({ m with sent := m.sent + 1 }, (UnitM.mk 4 m.p.code m.session (m.sent + 1) (flagsM m.valve m.hold) m.value).encode) := by
      rw [Hcm.out]
      unfold HostM.compose
      rw [if_neg s1, if_neg s2, if_neg s3]
      simp only
      rw [if_neg hq]
      rfl
    have hA5 := hA4.keepS (S := fun _ => False) ((Keep.refl _ W4).drewN nq) (fun _ _ h => h)
    have hU5 := hU3.drewN nq
    have hk5 := hk4.drewN nq
    have hul5 : u < (W4.drewN nq).heap.size := hul4
    generalize W4.drewN nq = W5 at *
    clear hc hB4 hA4 hU3 hk4 hul4
    have hin : m.p.inn = ((m.p.inn.toNat : Nat) : Int) := by
      have hl := hi.plaw
      simp [ParM.lawful] at hl
      omega
    have hin8 : m.p.inn.toNat ≤ 8 := by
      have hl := hi.plaw
      simp [ParM.lawful] at hl
      omega
    have hvv : ∀ b, m.valve.value = some b → b.length = m.p.inn.toNat := fun b hb => by have := hi.vval b hb; omega
    have hout8 : m.value.length ≤ 8 := by
      have hl := hi.plaw
      have := hi.value
      simp [ParM.lawful] at hl
      omega
    have Hin := Lib.hid hin
    have Hin8 := Lib.hid hin8
    have Hvv := Lib.hid hvv
    have Hout8 := Lib.hid hout8
    have Hcm2 := Lib.hid hcm
    clear hin hin8 hvv hout8 hcm
    have hown5 := hA5.value
    simp only at hown5
    obtain ⟨Av, cv, rfl⟩ := own_slice hown5
    replace hA5 := hA5.drew
    have hB5 := hA5.blk
    replace hU5 := hU5.drew
    replace hk5 := hk5.drew
    have hus : u < W5.drew.heap.size := hul5
    have hlo : ∀ x, F x → x ≠ u := huF
    go_wp2_with fail
    go_region_held3 (fun w' => w'.cell? ⟨a, 14, none⟩ = some (.slice Av m.value.length cv)) (with_reducible (first | exact hostS3 hB5 | exact hostS3 (hB5.farU hua _ _) | exact hostS3 ((hB5.farU hua _ _).farU hua _ _) | exact hostS3 (((hB5.farU hua _ _).farU hua _ _).farU hua _ _))) (first
      | (go_at_call 130; refine (hostFlags_any B a { m with sent := m.sent + 1 } m.p.inn.toNat F _ ⟨d, v, g, _, FV, FL, hA5⟩ Hin.out Hin8.out Hvv.out).mono ?_; rintro e W6 ⟨rfl, hb6⟩; replace hA5 := hA5.keepS (S := fun _ => False) (Keep.of_below hb6) (fun _ _ h => h); replace hB5 := hA5.blk; replace hU5 := hU5.below hb6 hus; have huc := hU5.cell; have huf := hU5.frozen; replace hk5 := hk5.andThen (S' := fun _ => False) (Keep.of_below hb6) (fun _ _ h => h.elim)))
    have hA7 := hA5.keepS ((((Keep.refl (fun x => x = u) W6).setCell (p := ⟨u, 0, none⟩) (fun _ => rfl) (.int .i64 4)).setCell (p := ⟨u, 4, none⟩) (fun _ => rfl) (.int .i64 (flagsM m.valve m.hold))).setCell (p := ⟨u, 5, none⟩) (fun _ => rfl) (.slice Av m.value.length cv)) hlo
    have hU7 : Blk (((W6.setCell ⟨u, 0, none⟩ (.int .i64 4)).setCell ⟨u, 4, none⟩ (.int .i64 (flagsM m.valve m.hold))).setCell ⟨u, 5, none⟩ (.slice Av m.value.length cv)) u 60 #[.int .i64 4, .int .u32 m.p.code, .int .u32 m.session, .int .u32 (m.sent + 1), .int .i64 (flagsM m.valve m.hold), .slice Av m.value.length cv] := by
      simpa using ((hU5.set_ 0 (.int .i64 4)).set_ 4 (.int .i64 (flagsM m.valve m.hold))).set_ 5 (.slice Av m.value.length cv)
    have hs1' : w.heap.size ≤ u := hs1
    have hk7 := ((hk5.setCell (p := ⟨u, 0, none⟩) (fun hx => by simp at hx; omega) (.int .i64 4)).setCell (p := ⟨u, 4, none⟩) (fun hx => by simp at hx; omega) (.int .i64 (flagsM m.valve m.hold))).setCell (p := ⟨u, 5, none⟩) (fun hx => by simp at hx; omega) (.slice Av m.value.length cv)
    generalize ((W6.setCell ⟨u, 0, none⟩ (.int .i64 4)).setCell ⟨u, 4, none⟩ (.int .i64 (flagsM m.valve m.hold))).setCell ⟨u, 5, none⟩ (.slice Av m.value.length cv) = W7 at *
    clear huc huf hA5 hU5 hk5 hB5
    have hown7 := hA7.value
    simp only at hown7
    have huc := hU7.cell
    go_wp2_with fail
    refine (unitEncode_at 4 m.p.code m.session (m.sent + 1) (flagsM m.valve m.hold) m.value Av m.value.length cv W7.heap.size W7 rfl hi.pok.code hi.session (by omega) (Reads.of_own hown7) (Nat.le_refl _)).mono ?_
    rintro e W10 ⟨v10, er, rfl, hown10, hb10⟩
    have h10 := hA7.keepS (S := fun _ => False) (Keep.of_below hb10) (fun _ _ h => h)
    have hk10 : Keep F w W10 := hk7.andThen (S' := fun _ => False) (Keep.of_below hb10) (fun _ _ h => h.elim)
    have hs7 := hk7.size
    go_wp2_with fail
    go_ret
    have e3 := Hcm2.out
    subst e3
    exact ⟨_, rfl, own_base hown10 hs7, hH.toIs h10 (fun x hx => .inl hx) hk10⟩
end Go.Proofs.YtdiogamcjihejaaGreat
