/- The base of the laws of the host, part 6: contracts and plain lemmas, no statement. -/
import Derived.Test.YtfoldlbnkfnenaaGreatBase5
/- A host's compose. -/
namespace Go.Proofs.YtfoldlbnkfnenaaGreat
open Go.RowKit
set_option maxHeartbeats 10000000
set_option maxRecDepth 100000

/-- What always holds of a host. -/
structure HostM.Inv (m : HostM) : Prop where
  pok : m.p.Ok
  plaw : m.p.lawful = true
  session : 0 ≤ m.session ∧ m.session < 4294967296
  number : 0 ≤ m.number ∧ m.number < 4294967296
  sent : 0 ≤ m.sent ∧ m.sent < 4294967296
  state : 1 ≤ m.state ∧ m.state ≤ 5
  missed : 0 ≤ m.missed ∧ m.missed ≤ 3
  since : 0 ≤ m.since ∧ m.since ≤ m.p.watch
  run : m.state = 4 → m.sent < m.p.count
  value : (m.value.length : Int) = m.p.out
  vval : ∀ b, m.valve.value = some b → (b.length : Int) = m.p.inn
theorem HostAt.keepS {B : Nat} {w w' : World} {a d v g : Nat} {m : HostM} {F FV FL S : Nat → Prop} {val : Value} (h : HostAt B w a m F d v g val FV FL) (hk : Keep S w w') (hS : ∀ x, F x → ¬ S x) : HostAt B w' a m F d v g val FV FL where
  blk := h.blk.keep hk (hS _ h.fa)
  dog := Blk.keep h.dog hk (hS _ h.fd)
  valve := h.valve.keep hk (fun x hx => hS _ (h.fV x hx)) (fun _ h => h)
  log := h.log.keep hk (fun x hx => hS _ (h.fL x hx)) (fun _ h => h)
  value := ownsRow_keep h.value hk (fun x hx => hS _ (h.fx x hx))
  fa := h.fa
  fd := h.fd
  fV := h.fV
  fL := h.fL
  fx := h.fx
  fb := fun x hx => by have := h.fb x hx; have := hk.size; omega
  va := h.va
  la := h.la
  vl := h.vl
  xv := h.xv
theorem unitEncode_at (k c s n f : Int) (data : List UInt8) (A : Option Addr) (len cap B : Nat) (w : World) (hlen : data.length = len) (hc : 0 ≤ c ∧ c < 4294967296) (hs : 0 ≤ s ∧ s < 4294967296) (hn : 0 ≤ n ∧ n < 4294967296) (hr : Reads w B 1 A len (u8c data)) (hB : B ≤ w.heap.size) :
    Calls Tryz.prog 81 #[.agg #[.int .i64 k, .int .u32 c, .int .u32 s, .int .u32 n, .int .i64 f, .slice A len cap]] w fun e w' => ∃ v er, e = .returned (.tuple #[v, .int .i64 er]) ∧ w'.ownsRow w.heap.size 5 1 v (UnitM.mk k c s n f data).encode.length (u8c (UnitM.mk k c s n f data).encode) ∧ Below w.heap.size w w' := by
  subst hlen
  refine (unitEncode_any ⟨k, c, s, n, f, data⟩ A cap B w ⟨hc, hs, hn⟩ hr hB).mono ?_
  rintro e w' ⟨v, rfl, h1, h2⟩
  exact ⟨v, _, rfl, h1, h2⟩
theorem Reads.far {w : World} {B size n : Nat} {A : Option Addr} {xs : List Value} (h : Reads w B size A n xs) {p : Addr} (hA : ∀ ad, A = some ad → ad.block ≠ p.block) (q : Value) : Reads (w.setCell p q) B size A n xs := by
  refine ⟨h.1, fun hn => ?_⟩
  obtain ⟨ad, e, hlt, hcl⟩ := h.2 hn
  refine ⟨ad, e, hlt, fun j y hy => ?_⟩
  rw [World.cell?_setCell_other _ _ _ _ (fun e2 => hA ad e (by rw [← block_of_add ad j, ← e2]))]
  exact hcl j y hy
theorem own_off {w : World} {base n c size u : Nat} {e : TypeId} {A : Option Addr} {xs : List Value} (h : w.ownsRow base e size (.slice A n c) n xs) (hu : u < base) : ∀ ad, A = some ad → ad.block ≠ u := by
  intro x hx e
  subst hx
  rcases h.2 with ⟨hy, _⟩ | ⟨g', _, _, hy, hg', _⟩
  · injection hy with hy; cases hy
  · injection hy with hy
    injection hy with hy
    subst hy
    simp at e
    omega
theorem hostS2 {w : World} {a d v g : Nat} {m : HostM} {val : Value} (h : Blk w a 88 (hostCells m d v g val)) :
    w.cell? ⟨a, 0, none⟩ = some (.int .u32 m.p.code) ∧ w.cell? ⟨a, 9, none⟩ = some (.int .u32 m.session) := ⟨(h.cell 0).trans rfl, (h.cell 9).trans rfl⟩
theorem Blk.farU {w : World} {g u : Nat} {t : TypeId} {cs : Array Value} (h : Blk w g t cs) (hne : u ≠ g) (i : Nat) (q : Value) : Blk (w.setCell ⟨u, i, none⟩ q) g t cs := h.far (fun e => hne e.symm) q
theorem hostS3 {w : World} {a d v g : Nat} {m : HostM} {val : Value} (h : Blk w a 88 (hostCells m d v g val)) : w.cell? ⟨a, 14, none⟩ = some val := (h.cell 14).trans rfl
theorem hostCompose_any (B a : Nat) (m : HostM) (F : Nat → Prop) (w : World) (hH : HostIs B w a m F) (hi : m.Inv) (hlen : m.log.length < 1073741822) (h5 : m.state ≠ 5) :
    Calls Tryz.prog 43 #[.pointer (some ⟨a, 0, none⟩)] w fun e w' => ∃ x, e = .returned x ∧ w'.ownsRow w.heap.size 5 1 x m.compose.2.length (u8c m.compose.2) ∧ HostTo B w a m.compose.1 F w' := by
  obtain ⟨d, v, g, val, FV, FL, hH⟩ := hH
  have hb0 := hH.blk
  have hc := hb0.cell
  unfold hostCells at hc
  have hsig := fun w => paramSignature_any m.p w hi.pok hi.plaw
  unfold parVal at hsig
  obtain ⟨cm, Hcm⟩ : ∃ c, Hid (c = m.compose) := ⟨_, Lib.hid rfl⟩
  rw [← Hcm.out]
  go_enter Tryz.func43, Tryz.ntmps43
  go_wp2_with fail
  refine (hsig _).mono ?_
  rintro e w1 ⟨rfl, hb1⟩
  have h1 := hH.keepS (S := fun _ => False) (Keep.of_below hb1) (fun _ _ h => h)
  have hB1 := h1.blk
  clear hc hsig
  have hc := hB1.cell
  unfold hostCells at hc
  go_wp2_with fail
  go_region_held3 (fun w' => w'.cell? ⟨a, 0, none⟩ = some (.int .u32 m.p.code) ∧ w'.cell? ⟨a, 9, none⟩ = some (.int .u32 m.session)) (first | exact hostS2 hB1.drew | exact hostS2 (hB1.alloc _).drew) (fail)
  have hU := (Blk.new w1 60 #[.int .i64 0, .int .u32 m.p.code, .int .u32 m.session, .int .u32 0, .int .i64 0, .slice none 0 0]).drew
  have h2 := (h1.keepS (S := fun _ => False) ((Keep.refl _ w1).alloc (.cells #[.int .i64 0, .int .u32 m.p.code, .int .u32 m.session, .int .u32 0, .int .i64 0, .slice none 0 0] 60)) (fun _ _ h => h)).drew
  have hb2 : Below w.heap.size w (w1.alloc (.cells #[.int .i64 0, .int .u32 m.p.code, .int .u32 m.session, .int .u32 0, .int .i64 0, .slice none 0 0] 60)).drew := (hb1.alloc hb1.size _).drew
  have hs1 := hb1.size
  obtain ⟨u, Hu⟩ : ∃ u, Hid (u = w1.heap.size) := ⟨_, Lib.hid rfl⟩
  rw [← Hu.out] at hU hs1 ⊢
  have hul := hU.lt
  generalize (w1.alloc (.cells #[.int .i64 0, .int .u32 m.p.code, .int .u32 m.session, .int .u32 0, .int .i64 0, .slice none 0 0] 60)).drew = W2 at *
  clear hc hB1 h1 hb1
  have hB2 := h2.blk
  have hc := hB2.cell
  unfold hostCells at hc
  have huc := hU.cell
  have huf := hU.frozen
  have huF : ∀ x, F x → x ≠ u := fun x hx e => by have := (hH.fb x hx).2; omega
  have hsl : m.p.sign.length = 4 := by simp [ParM.sign, wordOf]
  by_cases s1 : m.state = 1
  · have hcm : cm = (m, (UnitM.mk 1 m.p.code 0 0 0 m.p.sign).encode) := by rw [Hcm.out]; unfold HostM.compose; rw [if_pos s1]; rfl
    subst hcm
    clear Hcm
    rw [s1] at hc
    go_wp2_with fail
    refine (paramBytes_any _ W2).mono ?_
    rintro e W3 ⟨v3, rfl, hown3, hb3⟩
    obtain ⟨A3, c3, rfl⟩ := own_slice hown3
    have hU3 := hU.below hb3 hul
    have hb3' := hb2.trans (hb3.mono hb2.size)
    have ho := own_off hown3 hul
    have hr3 := (((Reads.of_own hown3).far (p := ⟨u, 0, none⟩) ho (.int .i64 1)).far (p := ⟨u, 2, none⟩) ho (.int .u32 0)).far (p := ⟨u, 5, none⟩) ho (.slice A3 4 c3)
    have hb4 : Below w.heap.size w (((W3.setCell ⟨u, 0, none⟩ (.int .i64 1)).setCell ⟨u, 2, none⟩ (.int .u32 0)).setCell ⟨u, 5, none⟩ (.slice A3 4 c3)) := ((hb3'.setCell (p := ⟨u, 0, none⟩) hs1 _).setCell (p := ⟨u, 2, none⟩) hs1 _).setCell (p := ⟨u, 5, none⟩) hs1 _
    have hz4 : (((W3.setCell ⟨u, 0, none⟩ (.int .i64 1)).setCell ⟨u, 2, none⟩ (.int .u32 0)).setCell ⟨u, 5, none⟩ (.slice A3 4 c3)).heap.size = W3.heap.size := by simp [World.setCell]
    clear huc huf hc
    have huc := hU3.cell
    have huf := hU3.frozen
    go_wp2_with fail
    refine (unitEncode_at 1 m.p.code 0 0 0 m.p.sign A3 4 c3 W3.heap.size _ hsl hi.pok.code (by omega) (by omega) hr3 (by rw [hz4]; exact Nat.le_refl _)).mono ?_
    rintro e W5 ⟨v5, er, rfl, hown5, hb5⟩
    have hb5' := hb4.trans (hb5.mono hb4.size)
    go_wp2_with fail
    go_ret
    exact ⟨_, rfl, own_base hown5 hb4.size, hH.toIs (hH.keepS (S := fun _ => False) (Keep.of_below hb5') (fun _ _ h => h)) (fun x hx => .inl hx) (Keep.of_below hb5')⟩
  have g1 : (m.state == 1) = false := by simpa using s1
  by_cases s2 : m.state = 2
  · have hcm : cm = (m, (UnitM.mk 2 m.p.code m.session 0 0 m.p.sign).encode) := by rw [Hcm.out]; unfold HostM.compose; rw [if_neg s1, if_pos s2]; rfl
    subst hcm
    clear Hcm
    rw [s2] at hc
    go_wp2_with fail
    refine (paramBytes_any _ W2).mono ?_
    rintro e W3 ⟨v3, rfl, hown3, hb3⟩
    obtain ⟨A3, c3, rfl⟩ := own_slice hown3
    have hU3 := hU.below hb3 hul
    have hb3' := hb2.trans (hb3.mono hb2.size)
    have ho := own_off hown3 hul
    have hr3 := ((Reads.of_own hown3).far (p := ⟨u, 0, none⟩) ho (.int .i64 2)).far (p := ⟨u, 5, none⟩) ho (.slice A3 4 c3)
    have hb4 : Below w.heap.size w ((W3.setCell ⟨u, 0, none⟩ (.int .i64 2)).setCell ⟨u, 5, none⟩ (.slice A3 4 c3)) := (hb3'.setCell (p := ⟨u, 0, none⟩) hs1 _).setCell (p := ⟨u, 5, none⟩) hs1 _
    have hz4 : ((W3.setCell ⟨u, 0, none⟩ (.int .i64 2)).setCell ⟨u, 5, none⟩ (.slice A3 4 c3)).heap.size = W3.heap.size := by simp [World.setCell]
    clear huc huf hc
    have huc := hU3.cell
    have huf := hU3.frozen
    go_wp2_with fail
    refine (unitEncode_at 2 m.p.code m.session 0 0 m.p.sign A3 4 c3 W3.heap.size _ hsl hi.pok.code hi.session (by omega) hr3 (by rw [hz4]; exact Nat.le_refl _)).mono ?_
    rintro e W5 ⟨v5, er, rfl, hown5, hb5⟩
    have hb5' := hb4.trans (hb5.mono hb4.size)
    go_wp2_with fail
    go_ret
    exact ⟨_, rfl, own_base hown5 hb4.size, hH.toIs (hH.keepS (S := fun _ => False) (Keep.of_below hb5') (fun _ _ h => h)) (fun x hx => .inl hx) (Keep.of_below hb5')⟩
  have g2 : (m.state == 2) = false := by simpa using s2
  by_cases s3 : m.state = 3
  · have hcm : cm = (m, (UnitM.mk 3 m.p.code m.session 0 0 []).encode) := by rw [Hcm.out]; unfold HostM.compose; rw [if_neg s1, if_neg s2, if_pos s3]; rfl
    subst hcm
    clear Hcm
    rw [s3] at hc
    have hb4 : Below w.heap.size w (W2.setCell ⟨u, 0, none⟩ (.int .i64 3)) := hb2.setCell (p := ⟨u, 0, none⟩) hs1 _
    have hz4 : (W2.setCell ⟨u, 0, none⟩ (.int .i64 3)).heap.size = W2.heap.size := by simp [World.setCell]
    go_wp2_with fail
    refine (unitEncode_at 3 m.p.code m.session 0 0 [] none 0 0 0 _ rfl hi.pok.code hi.session (by omega) Reads.none_ (Nat.zero_le _)).mono ?_
    rintro e W5 ⟨v5, er, rfl, hown5, hb5⟩
    have hb5' := hb4.trans (hb5.mono hb4.size)
    go_wp2_with fail
    go_ret
    exact ⟨_, rfl, own_base hown5 hb4.size, hH.toIs (hH.keepS (S := fun _ => False) (Keep.of_below hb5') (fun _ _ h => h)) (fun x hx => .inl hx) (Keep.of_below hb5')⟩
  have g3 : (m.state == 3) = false := by simpa using s3
  have s4 : m.state = 4 := by have := hi.state; omega
  have hrun := hi.run s4
  have hcnt := hi.pok.count
  have hsent := hi.sent
  have hw1 : IntKind.u32.wrap (m.sent + 1) = m.sent + 1 := IntWalk.u32_in _ (by omega)
  have hA3 : HostAt B (W2.setCell ⟨a, 11, none⟩ (.int .u32 (m.sent + 1))) a { m with sent := m.sent + 1 } F d v g val FV FL :=
    h2.upd ((Keep.refl (fun x => x = a) W2).setCell (p := ⟨a, 11, none⟩) (fun _ => rfl) _) (by simp [World.setCell]) (by simpa [hostCells] using hB2.set_ 11 (.int .u32 (m.sent + 1))) rfl rfl rfl rfl rfl
  have hua : u ≠ a := fun e => huF a hH.fa e.symm
  have hU3 : Blk ((W2.setCell ⟨a, 11, none⟩ (.int .u32 (m.sent + 1))).setCell ⟨u, 3, none⟩ (.int .u32 (m.sent + 1))) u 60 #[.int .i64 0, .int .u32 m.p.code, .int .u32 m.session, .int .u32 (m.sent + 1), .int .i64 0, .slice none 0 0] := by
    simpa using (hU.far (p := ⟨a, 11, none⟩) hua (.int .u32 (m.sent + 1))).set_ 3 (.int .u32 (m.sent + 1))
  have hA4 := hA3.keepS ((Keep.refl (fun x => x = u) _).setCell (p := ⟨u, 3, none⟩) (fun _ => rfl) (.int .u32 (m.sent + 1))) huF
  have hk4 : Keep F w ((W2.setCell ⟨a, 11, none⟩ (.int .u32 (m.sent + 1))).setCell ⟨u, 3, none⟩ (.int .u32 (m.sent + 1))) := ((Keep.of_below hb2).setCell (p := ⟨a, 11, none⟩) (fun _ => hH.fa) _).setCell (p := ⟨u, 3, none⟩) (fun hx => by simp at hx; omega) _
  have hcf := hB2.frozen
  go_wp2_with fail
  have hul4 := hU3.lt
  have hb4 : B ≤ w.heap.size := hH.Ble
  generalize (W2.setCell ⟨a, 11, none⟩ (.int .u32 (m.sent + 1))).setCell ⟨u, 3, none⟩ (.int .u32 (m.sent + 1)) = W4 at *
  clear huc huf hc hcf h2 hB2 hA3 hU hul hb2
  have hB4 := hA4.blk
  have hc := hB4.cell
  unfold hostCells at hc
  simp only at hc
  by_cases hq : m.sent + 1 = m.p.count
  · have hqb : (m.sent + 1 == m.p.count) = true := by simpa using hq
    go_big_quiet (fail)
    have hcm : cm = ({ (({ m with sent := m.sent + 1 } : HostM).trip 80).run false with state := 5 }, (UnitM.mk 5 m.p.code m.session m.p.count 0 []).encode) := by
      rw [Hcm.out]
      unfold HostM.compose
      rw [if_neg s1, if_neg s2, if_neg s3]
      simp only
      rw [if_pos hq]
      refine Prod.ext rfl ?_
      show (UnitM.mk 5 m.p.code m.session (m.sent + 1) 0 []).encode = _
      rw [hq]
    have hA5 := hA4.keepS (S := fun _ => False) ((Keep.refl _ W4).drewN nq) (fun _ _ h => h)
    have hU5 := hU3.drewN nq
    have hk5 := hk4.drewN nq
    have hul5 : u < (W4.drewN nq).heap.size := hul4
    generalize W4.drewN nq = W5 at *
    clear hc hB4 hA4 hU3 hk4 hul4
    have hA6 := hA5.keepS ((Keep.refl (fun x => x = u) W5).setCell (p := ⟨u, 0, none⟩) (fun _ => rfl) (.int .i64 5)) huF
    have hU6 : Blk (W5.setCell ⟨u, 0, none⟩ (.int .i64 5)) u 60 #[.int .i64 5, .int .u32 m.p.code, .int .u32 m.session, .int .u32 (m.sent + 1), .int .i64 0, .slice none 0 0] := by simpa using hU5.set_ 0 (.int .i64 5)
    have hk6 : Keep F w (W5.setCell ⟨u, 0, none⟩ (.int .i64 5)) := hk5.setCell (p := ⟨u, 0, none⟩) (fun hx => by simp at hx; omega) _
    have huc := hU5.cell
    have huf := hU5.frozen
    go_wp2_with fail
    have hul6 := hU6.lt
    generalize W5.setCell ⟨u, 0, none⟩ (.int .i64 5) = W6 at *
    clear huc huf hA5 hU5 hk5 hul5
    refine (hostTrip_any B a { m with sent := m.sent + 1 } F 80 W6 (by decide) ⟨d, v, g, val, FV, FL, hA6⟩ (by simp only; omega)).mono ?_
    rintro e W7 ⟨rfl, t7⟩
    obtain ⟨d7, v7, g7, val7, FV7, FL7, h7⟩ := t7.is_
    have hk7 := t7.keep
    have hs7 := hk7.size
    have hU7 := hU6.keep hk7 (fun e => huF u e rfl)
    have huF7 : ∀ x, grow F W6 W7 x → x ≠ u := fun x hx e => hx.elim (fun hx => huF x hx e) (fun hx => by omega)
    have hc7 := h7.blk.cell
    unfold hostCells at hc7
    go_wp2_with fail
    refine (valveRun_any v7 _ _ FV7 false W7 h7.valve).mono ?_
    rintro e W8 ⟨rfl, hv8, hk8, hs8⟩
    have h8 := h7.onValve hv8 hk8 (fun x hx => .inl hx)
    have hU8 := hU7.keep hk8 (fun e => huF7 u (h7.fV u e) rfl)
    have Hs8 := Lib.hid hs8
    clear hc7 hs8
    have hB8 := h8.blk
    have hc8 := hB8.cell
    have hf8 := hB8.frozen
    have h9 : HostAt B (W8.setCell ⟨a, 8, none⟩ (.int .i64 5)) a { (({ m with sent := m.sent + 1 } : HostM).trip 80).run false with state := 5 } (grow (grow F W6 W7) W7 W8) d7 v7 g7 val7 FV7 FL7 :=
      h8.upd ((Keep.refl (fun x => x = a) W8).setCell (p := ⟨a, 8, none⟩) (fun _ => rfl) _) (by simp [World.setCell]) (by simpa [hostCells, HostM.run] using hB8.set_ 8 (.int .i64 5)) rfl rfl rfl rfl rfl
    have hU9 := hU8.far (p := ⟨a, 8, none⟩) hua (.int .i64 5)
    have huc := hU9.cell
    unfold hostCells at hc8
    have hz9 : (W8.setCell ⟨a, 8, none⟩ (.int .i64 5)).heap.size = W8.heap.size := by simp [World.setCell]
    have huc8 := hU8.cell
    go_wp2_with fail
    refine (unitEncode_at 5 m.p.code m.session m.p.count 0 [] none 0 0 0 _ rfl hi.pok.code hi.session hi.pok.count Reads.none_ (Nat.zero_le _)).mono ?_
    rintro e W10 ⟨v10, er, rfl, hown10, hb10⟩
    have h10 := h9.keepS (S := fun _ => False) (Keep.of_below hb10) (fun _ _ h => h)
    go_wp2_with fail
    go_ret
    have hs10 := hb10.size
    have hs8 := Hs8.out
    have hs6 := hk6.size
    have hkz : Keep F w W10 := ((((hk6.andThen hk7 (fun _ _ h => h)).andThen hk8 (fun x hx hg => (h7.fV x hg).elim id (fun hg => by omega))).setCell (p := ⟨a, 8, none⟩) (fun _ => hH.fa) _).andThen (S' := fun _ => False) (Keep.of_below hb10) (fun _ _ h => h.elim))
    subst hcm
    refine ⟨_, rfl, own_base hown10 (by omega), hH.toIs h10 (fun x hx => ?_) hkz⟩
    rcases hx with (hx | hx) | hx
    · exact .inl hx
    · exact .inr ⟨by omega, by omega⟩
    · exact .inr ⟨by omega, by omega⟩
  · have hqb : (m.sent + 1 == m.p.count) = false := by simpa using hq
    go_big_quiet (fail)
    have hcm : cm = ({ m with sent := m.sent + 1 }, (UnitM.mk 4 m.p.code m.session (m.sent + 1) (flagsM m.valve m.hold) m.value).encode) := by
      rw [Hcm.out]
      unfold HostM.compose
      rw [if_neg s1, if_neg s2, if_neg s3]
      simp only
      rw [if_neg hq]
      rfl
    have hA5 := hA4.keepS (S := fun _ => False) ((Keep.refl _ W4).drewN nq) (fun _ _ h => h)
    have hU5 := hU3.drewN nq
    have hk5 := hk4.drewN nq
    have hul5 : u < (W4.drewN nq).heap.size := hul4
    generalize W4.drewN nq = W5 at *
    clear hc hB4 hA4 hU3 hk4 hul4
    have hin : m.p.inn = ((m.p.inn.toNat : Nat) : Int) := by
      have hl := hi.plaw
      simp [ParM.lawful] at hl
      omega
    have hin8 : m.p.inn.toNat ≤ 8 := by
      have hl := hi.plaw
      simp [ParM.lawful] at hl
      omega
    have hvv : ∀ b, m.valve.value = some b → b.length = m.p.inn.toNat := fun b hb => by have := hi.vval b hb; omega
    have hout8 : m.value.length ≤ 8 := by
      have hl := hi.plaw
      have := hi.value
      simp [ParM.lawful] at hl
      omega
    have Hin := Lib.hid hin
    have Hin8 := Lib.hid hin8
    have Hvv := Lib.hid hvv
    have Hout8 := Lib.hid hout8
    have Hcm2 := Lib.hid hcm
    clear hin hin8 hvv hout8 hcm
    have hown5 := hA5.value
    simp only at hown5
    obtain ⟨Av, cv, rfl⟩ := own_slice hown5
    replace hA5 := hA5.drew
    have hB5 := hA5.blk
    replace hU5 := hU5.drew
    replace hk5 := hk5.drew
    have hus : u < W5.drew.heap.size := hul5
    have hlo : ∀ x, F x → x ≠ u := huF
    go_wp2_with fail
    go_region_held3 (fun w' => w'.cell? ⟨a, 14, none⟩ = some (.slice Av m.value.length cv)) (with_reducible (first | exact hostS3 hB5 | exact hostS3 (hB5.farU hua _ _) | exact hostS3 ((hB5.farU hua _ _).farU hua _ _) | exact hostS3 (((hB5.farU hua _ _).farU hua _ _).farU hua _ _))) (first
      | (go_at_call 80; refine (hostFlags_any B a { m with sent := m.sent + 1 } m.p.inn.toNat F _ ⟨d, v, g, _, FV, FL, hA5⟩ Hin.out Hin8.out Hvv.out).mono ?_; rintro e W6 ⟨rfl, hb6⟩; replace hA5 := hA5.keepS (S := fun _ => False) (Keep.of_below hb6) (fun _ _ h => h); replace hB5 := hA5.blk; replace hU5 := hU5.below hb6 hus; have huc := hU5.cell; have huf := hU5.frozen; replace hk5 := hk5.andThen (S' := fun _ => False) (Keep.of_below hb6) (fun _ _ h => h.elim)))
    have hA7 := hA5.keepS ((((Keep.refl (fun x => x = u) W6).setCell (p := ⟨u, 0, none⟩) (fun _ => rfl) (.int .i64 4)).setCell (p := ⟨u, 4, none⟩) (fun _ => rfl) (.int .i64 (flagsM m.valve m.hold))).setCell (p := ⟨u, 5, none⟩) (fun _ => rfl) (.slice Av m.value.length cv)) hlo
    have hU7 : Blk (((W6.setCell ⟨u, 0, none⟩ (.int .i64 4)).setCell ⟨u, 4, none⟩ (.int .i64 (flagsM m.valve m.hold))).setCell ⟨u, 5, none⟩ (.slice Av m.value.length cv)) u 60 #[.int .i64 4, .int .u32 m.p.code, .int .u32 m.session, .int .u32 (m.sent + 1), .int .i64 (flagsM m.valve m.hold), .slice Av m.value.length cv] := by
      simpa using ((hU5.set_ 0 (.int .i64 4)).set_ 4 (.int .i64 (flagsM m.valve m.hold))).set_ 5 (.slice Av m.value.length cv)
    have hs1' : w.heap.size ≤ u := hs1
    have hk7 := ((hk5.setCell (p := ⟨u, 0, none⟩) (fun hx => by simp at hx; omega) (.int .i64 4)).setCell (p := ⟨u, 4, none⟩) (fun hx => by simp at hx; omega) (.int .i64 (flagsM m.valve m.hold))).setCell (p := ⟨u, 5, none⟩) (fun hx => by simp at hx; omega) (.slice Av m.value.length cv)
    generalize ((W6.setCell ⟨u, 0, none⟩ (.int .i64 4)).setCell ⟨u, 4, none⟩ (.int .i64 (flagsM m.valve m.hold))).setCell ⟨u, 5, none⟩ (.slice Av m.value.length cv) = W7 at *
    clear huc huf hA5 hU5 hk5 hB5
    have hown7 := hA7.value
    simp only at hown7
    have huc := hU7.cell
    go_wp2_with fail
    refine (unitEncode_at 4 m.p.code m.session (m.sent + 1) (flagsM m.valve m.hold) m.value Av m.value.length cv W7.heap.size W7 rfl hi.pok.code hi.session (by omega) (Reads.of_own hown7) (Nat.le_refl _)).mono ?_
    rintro e W10 ⟨v10, er, rfl, hown10, hb10⟩
    have h10 := hA7.keepS (S := fun _ => False) (Keep.of_below hb10) (fun _ _ h => h)
    have hk10 : Keep F w W10 := hk7.andThen (S' := fun _ => False) (Keep.of_below hb10) (fun _ _ h => h.elim)
    have hs7 := hk7.size
    go_wp2_with fail
    go_ret
    have e3 := Hcm2.out
    subst e3
    exact ⟨_, rfl, own_base hown10 hs7, hH.toIs h10 (fun x hx => .inl hx) hk10⟩
end Go.Proofs.YtfoldlbnkfnenaaGreat
/- A host's Send. -/
namespace Go.Proofs.YtfoldlbnkfnenaaGreat
open Go.RowKit
set_option maxHeartbeats 10000000
set_option maxRecDepth 100000

theorem valve_trip_val {V : ValveM} {code n : Int} (h : ∀ b, V.value = some b → (b.length : Int) = n) : ∀ b, (V.trip code).1.value = some b → (b.length : Int) = n := by
  intro b hb
  unfold ValveM.trip at hb
  split at hb
  · exact h b hb
  · cases hb
theorem valve_run_val {V : ValveM} {on : Bool} {n : Int} (h : ∀ b, V.value = some b → (b.length : Int) = n) : ∀ b, (V.run on).value = some b → (b.length : Int) = n := by
  intro b hb
  unfold ValveM.run at hb
  split at hb
  · exact h b hb
  · cases hb
theorem HostM.Inv.trip {m : HostM} (h : m.Inv) (code : Int) : (m.trip code).Inv := { h with vval := valve_trip_val h.vval }
theorem HostM.Inv.leave {m : HostM} (h : m.Inv) : m.leave.Inv :=
  { h with number := by simp [HostM.leave], sent := by simp [HostM.leave], state := by simp [HostM.leave], missed := by simp [HostM.leave], run := fun e => by simp [HostM.leave] at e, vval := valve_run_val h.vval }
theorem HostM.Inv.lost {m : HostM} (h : m.Inv) : m.lost.Inv := by
  have hm := h.missed
  unfold HostM.lost
  split
  · exact h
  · simp only
    split
    · exact { h with missed := by simp only; omega }
    · split
      · have h1 := HostM.Inv.trip h 131
        have : (({ m with missed := m.missed + 1 } : HostM).trip 131).leave = (m.trip 131).leave := rfl
        rw [this]
        exact h1.leave
      · have : ({ m with missed := m.missed + 1 } : HostM).leave = m.leave := rfl
        rw [this]
        exact h.leave
theorem lost_state {m : HostM} (h : m.state ≠ 5) : m.lost.state ≠ 5 := by
  unfold HostM.lost
  split
  · exact h
  · simp only
    split
    · exact h
    · split <;> simp [HostM.leave]
theorem trip_log (m : HostM) (code : Int) : (m.trip code).log.length ≤ m.log.length + 1 := by
  unfold HostM.trip
  simp only
  split
  · simp [noteM]
  · simp
theorem lost_log (m : HostM) : m.lost.log.length ≤ m.log.length + 1 := by
  unfold HostM.lost
  split
  · omega
  · simp only
    split
    · simp
    · split
      · exact trip_log { m with missed := m.missed + 1 } 131
      · simp [HostM.leave]
theorem hostSend_any (B a : Nat) (m : HostM) (F : Nat → Prop) (w : World) (hH : HostIs B w a m F) (hi : m.Inv) (hlen : m.log.length < 1073741800) :
    Calls Tryz.prog 19 #[.pointer (some ⟨a, 0, none⟩)] w fun e w' => ∃ x, e = .returned (.tuple #[x, .int .i64 m.send.2.2]) ∧ w'.ownsRow w.heap.size 5 1 x m.send.2.1.length (u8c m.send.2.1) ∧ HostTo B w a m.send.1 F w' := by
  have h0 := hH
  obtain ⟨d, v, g, val, FV, FL, hH⟩ := hH
  have hc := hH.blk.cell
  unfold hostCells at hc
  by_cases h5 : m.state = 5
  · have e1 : m.send = (m, [], 132) := by unfold HostM.send; rw [if_pos h5]
    rw [e1]
    rw [h5] at hc
    clear e1
    go_enter Tryz.func19, Tryz.ntmps19
    go_wp2_with fail
    refine bodyPost_ret (v := .tuple #[.slice none 0 0, .int .i64 132]) (by simp [results, Tryz.results19, go_sem]) rfl ⟨_, rfl, World.ownsRow_nil _ _ _ _, HostTo.refl h0⟩
  · have g5 : (m.state == 5) = false := by simpa using h5
    have Hs : Hid (m.send = ({ m.lost.compose.1 with waits := true }, m.lost.compose.2, 0)) := Lib.hid (by unfold HostM.send; rw [if_neg h5])
    rw [Hs.out]
    have hl := lost_log m
    have hcomp := fun w1 F1 h1 => hostCompose_any B a m.lost F1 w1 h1 hi.lost (by omega) (lost_state h5)
    have hlost := hostLost_any B a m F w h0 (by omega) ⟨hi.missed.1, by have := hi.missed.2; omega⟩
    obtain ⟨cm, hcm⟩ : ∃ c, c = m.lost.compose := ⟨_, rfl⟩
    rw [← hcm] at hcomp ⊢
    clear hl Hs hcm
    go_enter Tryz.func19, Tryz.ntmps19
    go_wp2_with fail
    refine hlost.mono ?_
    rintro e w1 ⟨rfl, t1⟩
    go_wp2_with fail
    refine (hcomp _ _ t1.is_).mono ?_
    rintro e w2 ⟨x, rfl, hown, t2⟩
    have t3 := HostTo.trans h0 t1 t2
    obtain ⟨d3, v3, g3, val3, FV3, FL3, h3⟩ := t3.is_
    have hk3 := t3.keep
    have ha : a < w1.heap.size := by have := (hH.fb a hH.fa).2; have := t1.keep.size; omega
    have hs1 := t1.keep.size
    obtain ⟨A, c, rfl⟩ := own_slice hown
    have hfar : (Value.slice A cm.2.length c).ownBlock ≠ some a := fun e => by have := (hown.lt a e).1; omega
    have hb3 := h3.blk
    clear hc hcomp hlost t1 t2 t3
    have hc := hb3.cell
    have hf := hb3.frozen
    unfold hostCells at hc
    go_wp2_with fail
    have h4 : HostAt B (w2.setCell ⟨a, 12, none⟩ (.bool true)) a { cm.1 with waits := true } (grow F w w2) d3 v3 g3 val3 FV3 FL3 :=
      h3.upd ((Keep.refl (fun x => x = a) w2).setCell (p := ⟨a, 12, none⟩) (fun _ => rfl) _) (by simp [World.setCell]) (by simpa [hostCells] using hb3.set_ 12 (.bool true)) rfl rfl rfl rfl rfl
    have hz : (w2.setCell ⟨a, 12, none⟩ (.bool true)).heap.size = w2.heap.size := by simp [World.setCell]
    refine bodyPost_ret (v := .tuple #[.slice A cm.2.length c, .int .i64 0]) (by simp [results, Tryz.results19, go_sem]) rfl ⟨_, rfl, own_base (own_far hown hfar 12 _) hs1, hH.toIs h4 (fun x hx => hx.elim .inl (fun hx => .inr ⟨hx.1, by rw [hz]; exact hx.2⟩)) (hk3.setCell (p := ⟨a, 12, none⟩) (fun _ => hH.fa) _)⟩
end Go.Proofs.YtfoldlbnkfnenaaGreat
/- What always holds of a host: kept by every call. Plain. -/
namespace Go.Proofs.YtfoldlbnkfnenaaGreat

/-- What always holds of a host, at either end of the comparison. -/
structure HostM.Good (m : HostM) : Prop where
  inv : m.Inv
  sent0 : m.state < 4 → m.sent = 0
  fr : m.valve.fresh = true → m.valve.latched ≠ 0
theorem fr_trip {V : ValveM} {code : Int} (h : V.fresh = true → V.latched ≠ 0) : (V.trip code).1.fresh = true → (V.trip code).1.latched ≠ 0 := by
  unfold ValveM.trip
  split
  · exact h
  · intro h; cases h
theorem fr_run {V : ValveM} {on : Bool} (h : V.fresh = true → V.latched ≠ 0) : (V.run on).fresh = true → (V.run on).latched ≠ 0 := by
  unfold ValveM.run
  split <;> exact h
theorem fr_come (V : ValveM) : V.come.fresh = true → V.come.latched ≠ 0 := by
  unfold ValveM.come
  intro h
  simpa using h
theorem fr_take {V : ValveM} {b : List UInt8} (h : V.fresh = true → V.latched ≠ 0) : (V.take b).fresh = true → (V.take b).latched ≠ 0 := by
  unfold ValveM.take
  split <;> exact h
theorem fr_ack {V : ValveM} (h : V.fresh = true → V.latched ≠ 0) : V.ack.fresh = true → V.ack.latched ≠ 0 := by
  unfold ValveM.ack
  split
  · intro h; cases h
  · exact h
namespace HostM.Good
variable {m : HostM}
theorem trip (h : m.Good) (code : Int) : (m.trip code).Good := ⟨h.inv.trip code, h.sent0, fr_trip h.fr⟩
theorem leave (h : m.Good) : m.leave.Good := ⟨h.inv.leave, fun _ => rfl, fr_run h.fr⟩
theorem lost (h : m.Good) : m.lost.Good := by
  refine ⟨h.inv.lost, ?_, ?_⟩
  · unfold HostM.lost
    split
    · exact h.sent0
    · simp only
      split
      · exact h.sent0
      · split <;> exact fun _ => rfl
  · unfold HostM.lost
    split
    · exact h.fr
    · simp only
      split
      · exact h.fr
      · split
        · exact fr_run (fr_trip h.fr)
        · exact fr_run h.fr
theorem alive (h : m.Good) : m.alive.Good := ⟨{ h.inv with missed := by simp [HostM.alive], since := by have := h.inv.since; simp only [HostM.alive]; omega, vval := h.inv.vval }, h.sent0, fr_come _⟩
theorem run (h : m.Good) (on : Bool) : (m.run on).Good := ⟨{ h.inv with vval := valve_run_val h.inv.vval }, h.sent0, fr_run h.fr⟩
theorem done (h : m.Good) : ({ m with state := 5 } : HostM).Good := ⟨{ h.inv with state := by simp, run := fun e => by simp at e }, fun e => by simp at e, h.fr⟩
theorem compose (h : m.Good) (h5 : m.state ≠ 5) : m.compose.1.Good := by
  unfold HostM.compose
  split
  · exact h
  split
  · exact h
  split
  · exact h
  have hst := h.inv.state
  have s4 : m.state = 4 := by omega
  have hrun := h.inv.run s4
  have hcnt := h.inv.pok.count
  have hsent := h.inv.sent
  simp only
  split
  · rename_i hq
    have h1 : ({ m with sent := m.sent + 1 } : HostM).trip 80 = { m.trip 80 with sent := m.sent + 1 } := rfl
    rw [h1]
    have h2 := (h.trip 80).run false
    exact ⟨{ h2.inv with sent := by simp only [HostM.run]; omega, state := by simp, run := fun e => by simp at e }, fun e => by simp at e, h2.fr⟩
  · rename_i hq
    exact ⟨{ h.inv with sent := by simp only; omega, run := fun _ => by simp only; omega }, fun e => by simp only at e; omega, h.fr⟩
theorem send (h : m.Good) : m.send.1.Good := by
  unfold HostM.send
  split
  · exact h
  · rename_i h5
    have h1 := h.lost.compose (lost_state h5)
    exact ⟨{ h1.inv with }, h1.sent0, h1.fr⟩
theorem take (h : m.Good) {u : UnitM} (hs : 0 ≤ u.session ∧ u.session < 4294967296) (hn : 0 ≤ u.number ∧ u.number < 4294967296) : (m.take u).1.Good := by
  have hst := h.inv.state
  have hcnt := h.inv.pok.count
  have hlaw := h.inv.plaw
  simp [ParM.lawful] at hlaw
  unfold HostM.take
  split
  · rename_i s1
    split
    · exact h
    split
    · exact h
    · have : ({ m with session := u.session, state := 2 } : HostM).Good := ⟨{ h.inv with session := hs, state := by simp, run := fun e => by simp at e }, fun _ => h.sent0 (by omega), h.fr⟩
      exact this.alive
  split
  · exact h
  split
  · rename_i s2
    have : ({ m with state := 3 } : HostM).Good := ⟨{ h.inv with state := by simp, run := fun e => by simp at e }, fun _ => h.sent0 (by omega), h.fr⟩
    exact this.alive
  split
  · rename_i s3
    have h0 := h.sent0 (by omega)
    have : ({ m with state := 4 } : HostM).Good := ⟨{ h.inv with state := by simp, run := fun _ => by simp only; omega }, fun e => by simp at e, h.fr⟩
    exact (this.run true).alive
  split
  · rename_i s4
    have h1 : ({ m with number := u.number } : HostM).Good := ⟨{ h.inv with number := hn }, h.sent0, h.fr⟩
    have h2 := h1.alive
    refine ⟨{ h2.inv with vval := ?_ }, h2.sent0, fr_take (V := (HostM.alive _).valve.hold _) h2.fr⟩
    intro b hb
    simp only [ValveM.take] at hb
    split at hb
    · simp only [Option.some.injEq] at hb
      subst hb
      exact s4.2.2.2.2
    · exact h2.inv.vval b hb
  split
  · have h1 : ({ m with number := u.number } : HostM).Good := ⟨{ h.inv with number := hn }, h.sent0, h.fr⟩
    exact ((h1.alive.trip 80).run false).done
  · exact h
theorem log (h : m.Good) (l : List Rec) : ({ m with log := l } : HostM).Good := ⟨{ h.inv with }, h.sent0, h.fr⟩
theorem write (h : m.Good) (b : List UInt8) (hold : Bool) : (m.write b hold).1.Good := by
  unfold HostM.write
  split
  · exact h
  · rename_i hq
    exact ⟨{ h.inv with value := by simpa using hq }, h.sent0, h.fr⟩
theorem tick (h : m.Good) (n : Int) : (m.tick n).1.Good := by
  have hs := h.inv.since
  unfold HostM.tick
  split
  · exact h
  · have h1 : ({ m with since := (ticksM m.p.watch m.since n).1 } : HostM).Good := by
      refine ⟨{ h.inv with since := ?_ }, h.sent0, h.fr⟩
      simp only
      unfold ticksM
      split
      · exact hs
      · split
        · simp only; omega
        · simp only; omega
    simp only
    split
    · exact h1.trip 100
    · exact h1
theorem ack (h : m.Good) : m.ack.1.Good := by
  unfold HostM.ack
  split
  · refine ⟨{ h.inv with vval := ?_ }, h.sent0, fr_ack h.fr⟩
    intro b hb
    unfold ValveM.ack at hb
    split at hb <;> exact h.inv.vval b hb
  · exact h
end HostM.Good
theorem HostM.good_new (p : ParM) (hp : p.Ok) (hl : p.lawful = true) (L : List Rec) : ({ p := p, log := L, value := List.replicate p.out.toNat 0 } : HostM).Good := by
  have hlaw := hl
  simp [ParM.lawful] at hlaw
  exact ⟨{ pok := hp, plaw := hl, session := by simp, number := by simp, sent := by simp, state := by simp, missed := by simp, since := by simp; omega, run := fun e => by simp at e, value := by simp; omega, vval := fun b hb => by cases hb }, fun _ => rfl, fun h => by cases h⟩
theorem HostM.Good.reset {m : HostM} (h : m.Good) : m.reset.Good := HostM.good_new m.p h.inv.pok h.inv.plaw m.log
theorem numAt_ok (l : List UInt8) (i : Nat) : 0 ≤ numAt l i ∧ numAt l i < 4294967296 := by
  unfold numAt
  have := (ofWord (l.getD i 0) (l.getD (i + 1) 0) (l.getD (i + 2) 0) (l.getD (i + 3) 0)).isLt
  omega
theorem decode_ok (l : List UInt8) : (0 ≤ (decodeM l).1.session ∧ (decodeM l).1.session < 4294967296) ∧ (0 ≤ (decodeM l).1.number ∧ (decodeM l).1.number < 4294967296) ∧ (0 ≤ (decodeM l).1.code ∧ (decodeM l).1.code < 4294967296) := by
  unfold decodeM
  split
  · simp [UnitM.zero]
  split
  · simp [UnitM.zero]
  split
  · simp [UnitM.zero]
  · simp only
    generalize (if (unitOf l).lawful ≠ 43 ∧ (unitOf l).lawful ≠ 44 ∧ (l.getD 14 0).toNat ≠ (unitOf l).data.length then (45 : Int) else (unitOf l).lawful) = e
    split
    · simp [UnitM.zero]
    · exact ⟨numAt_ok l 5, numAt_ok l 9, numAt_ok l 1⟩
/-- What is decoded without a fault is lawful. -/
theorem decode_lawful (l : List UInt8) (h : (decodeM l).2 = 0) : (decodeM l).1.lawful = 0 ∧ (decodeM l).1 = unitOf l := by
  unfold decodeM at h ⊢
  split
  · rename_i h1; rw [if_pos h1] at h; cases h
  rename_i h1
  rw [if_neg h1] at h
  split
  · rename_i h2; rw [if_pos h2] at h; cases h
  rename_i h2
  rw [if_neg h2] at h
  split
  · rename_i h3; rw [if_pos h3] at h; cases h
  rename_i h3
  rw [if_neg h3] at h
  simp only at h ⊢
  obtain ⟨e, he⟩ : ∃ e, e = (if (unitOf l).lawful ≠ 43 ∧ (unitOf l).lawful ≠ 44 ∧ (l.getD 14 0).toNat ≠ (unitOf l).data.length then (45 : Int) else (unitOf l).lawful) := ⟨_, rfl⟩
  rw [← he] at h ⊢
  by_cases h4 : e = 0
  · subst h4
    simp only [ne_eq, not_true_eq_false, if_false]
    refine ⟨?_, trivial⟩
    split at he
    · cases he
    · exact he.symm
  · rw [if_pos h4] at h
    exact absurd h h4
theorem lawful_flags {u : UnitM} (h : u.lawful = 0) : 0 ≤ u.flags ∧ u.flags ≤ 15 := by
  unfold UnitM.lawful at h
  split at h
  · cases h
  split at h
  · cases h
  split at h
  · cases h
  split at h
  · cases h
  split at h
  · cases h
  split at h
  · cases h
  · rename_i h1
    simp [flagOk] at h1
    omega
theorem HostM.Good.read {m : HostM} (h : m.Good) (l : List UInt8) : (m.read l).1.Good := by
  have hd := decode_ok l
  unfold HostM.read
  simp only
  split
  · exact h
  split
  · exact h
  split
  · exact h
  · exact h.take hd.1 hd.2.1
theorem HostM.Good.receive {m : HostM} (h : m.Good) (l : List UInt8) : (m.receive l).1.Good := by
  unfold HostM.receive
  simp only
  split
  · exact h.read l
  · exact (h.read l).log _
end Go.Proofs.YtfoldlbnkfnenaaGreat
/- The statements' calls on a host: plain. -/
namespace Go.Proofs.YtfoldlbnkfnenaaGreat

/-- One call. -/
structure OpM where
  kind : Int
  n : Int
  flags : Int
  odd : Bool
  data : List UInt8
  at_ : Int
  word : Int
/-- An op as a value. -/
def opVal (o : OpM) (x : Value) : Value := .agg #[.int .i64 o.kind, .int .i64 o.n, .int .i64 o.flags, .bool o.odd, x, .int .i64 o.at_, .int .u32 o.word]
structure OpM.Ok (o : OpM) : Prop where
  at_ : -9223372036854775808 ≤ o.at_ ∧ o.at_ < 9223372036854775808
  word : 0 ≤ o.word ∧ o.word < 4294967296
  n : -9223372036854775808 ≤ o.n ∧ o.n < 9223372036854775808
/-- A bit of a word. -/
def wbit (word : Int) (i : Nat) : Bool := word / 2 ^ i % 2 != 0
/-- How many bits a word has, of its first k. -/
def sizeTo (word : Int) : Nat → Nat
  | 0 => 0
  | k + 1 => if wbit word k then k + 1 else sizeTo word k
/-- A bit of a list turned. -/
def turnBit (b : List UInt8) (k : Nat) : List UInt8 := b.set (k / 8) ((b.getD (k / 8) 0) ^^^ (128 >>> UInt8.ofNat (k % 8)))
/-- The first k bits of a burst turned. -/
def turnTo (word : Int) (size frm : Nat) (b : List UInt8) : Nat → List UInt8
  | 0 => b
  | k + 1 => if wbit word (size - 1 - k) then turnBit (turnTo word size frm b k) (frm + k) else turnTo word size frm b k
/-- Bytes with a burst turned in them. -/
def burstM (b : List UInt8) (at_ word : Int) : Option (List UInt8) :=
  let size := sizeTo word 32
  if size = 0 ∨ 8 * b.length < size then none
  else
    let room := 8 * b.length - size + 1
    some (turnTo word size ((at_ % 18446744073709551616).toNat % room) b size)
/-- The signature, spoilt perhaps. -/
def signOf (m : HostM) (odd : Bool) : List UInt8 := if odd then m.p.sign.set 0 ((m.p.sign.getD 0 0) ^^^ 1) else m.p.sign
def addU (a b : Int) : Int := (a + b) % 4294967296
/-- The unit of an op. -/
def unitOp (m : HostM) (o : OpM) : UnitM :=
  let s := if o.odd then addU m.session 1 else m.session
  if o.kind = 1 then ⟨17, m.p.code, addU m.session o.n, 0, 0, signOf m o.odd⟩
  else if o.kind = 2 then ⟨18, m.p.code, s, 0, 0, []⟩
  else if o.kind = 3 then ⟨19, m.p.code, s, 0, 0, []⟩
  else if o.kind = 5 then ⟨21, m.p.code, s, m.p.count, 0, []⟩
  else ⟨20, m.p.code, s, addU m.number o.n, o.flags, o.data⟩
/-- The frame of an op; none: it receives none. -/
def frameM (m : HostM) (o : OpM) : Option (List UInt8) :=
  if o.kind = 6 then some o.data
  else if 1 ≤ o.kind ∧ o.kind ≤ 5 then some (unitOp m o).encode
  else if o.kind = 7 then some ((burstM (unitOp m o).encode o.at_ o.word).getD (unitOp m o).encode)
  else none
/-- A host behind one call. -/
def stepM (m : HostM) (o : OpM) : HostM :=
  match frameM m o with
  | some b => (m.receive b).1
  | none =>
    if o.kind = 8 then (m.tick o.n).1 else if o.kind = 9 then (m.write o.data o.odd).1 else if o.kind = 10 then m.ack.1 else if o.kind = 11 then m.reset else if o.kind = 12 then m.send.1 else m
theorem stepM_good {m : HostM} (h : m.Good) (o : OpM) : (stepM m o).Good := by
  unfold stepM
  split
  · exact h.receive _
  · split
    · exact h.tick _
    split
    · exact h.write _ _
    split
    · exact h.ack
    split
    · exact h.reset
    split
    · exact h.send
    · exact h
theorem take_log1 (m : HostM) (u : UnitM) : (m.take u).1.log.length ≤ m.log.length + 1 := by
  unfold HostM.take
  split
  · split
    · simp
    split <;> simp [HostM.alive]
  split
  · simp
  split
  · simp [HostM.alive]
  split
  · simp [HostM.alive, HostM.run]
  split
  · simp [HostM.alive]
  split
  · have := trip_log ({ m with number := u.number } : HostM).alive 80
    simpa [HostM.run, HostM.alive] using this
  · simp
theorem read_log1 (m : HostM) (l : List UInt8) : (m.read l).1.log.length ≤ m.log.length + 1 := by
  unfold HostM.read
  simp only
  split
  · simp
  split
  · simp
  split
  · simp
  · exact take_log1 m _
theorem receive_log (m : HostM) (l : List UInt8) : (m.receive l).1.log.length ≤ m.log.length + 2 := by
  have := read_log1 m l
  unfold HostM.receive
  simp only
  split
  · omega
  · simp [noteM]; omega
theorem compose_log (m : HostM) : m.compose.1.log.length ≤ m.log.length + 1 := by
  unfold HostM.compose
  split
  · simp
  split
  · simp
  split
  · simp
  simp only
  split
  · have := trip_log ({ m with sent := m.sent + 1 } : HostM) 80
    simpa [HostM.run] using this
  · simp
theorem send_log (m : HostM) : m.send.1.log.length ≤ m.log.length + 2 := by
  unfold HostM.send
  split
  · simp
  · have h1 := lost_log m
    have h2 := compose_log m.lost
    simp only
    omega
theorem tick_log (m : HostM) (n : Int) : (m.tick n).1.log.length ≤ m.log.length + 1 := by
  unfold HostM.tick
  split
  · simp
  · simp only
    split
    · exact trip_log _ _
    · simp
theorem stepM_log (m : HostM) (o : OpM) : (stepM m o).log.length ≤ m.log.length + 2 := by
  unfold stepM
  split
  · exact receive_log m _
  · split
    · have := tick_log m o.n; omega
    split
    · unfold HostM.write; split <;> simp
    split
    · unfold HostM.ack; split <;> simp
    split
    · simp [HostM.reset]
    split
    · exact send_log m
    · simp
end Go.Proofs.YtfoldlbnkfnenaaGreat
/- The reference's remainder (parapetref01), plain. -/
namespace Go.Proofs.YtfoldlbnkfnenaaGreat
open Go.RowKit

def degTo : Nat → Int
  | 0 => -1
  | k + 1 => if (4812730177 : Nat) / 2 ^ k % 2 = 1 then (k : Int) else degTo k
theorem degTo_64 : degTo 64 = 32 := by decide +kernel
theorem degTo_succ (k : Nat) : degTo (k + 1) = if (4812730177 : Nat) / 2 ^ k % 2 = 1 then (k : Int) else degTo k := rfl
theorem xor64 (x y : Int) : bits .xor .u64 x y = ((BitVec.ofInt 64 x ^^^ BitVec.ofInt 64 y).toNat : Int) := by
  unfold bits
  have h := (BitVec.ofInt 64 x ^^^ BitVec.ofInt 64 y).isLt
  exact IntWalk.u64_in ((BitVec.ofInt 64 x ^^^ BitVec.ofInt 64 y).toNat : Int) ⟨by omega, by omega⟩
theorem shl64 (s : BitVec 32) : s.setWidth 64 <<< 1 = (s <<< 1).setWidth 64 ^^^ (if s.msb then 0x100000000#64 else 0#64) := by
  have e : (0x100000000#64) = BitVec.twoPow 64 32 := by decide
  have hm : s.msb = s.getLsbD 31 := by rw [BitVec.msb_eq_getLsbD_last]
  apply BitVec.eq_of_getLsbD_eq
  intro i hi
  rw [hm, e]
  have hx : (if s.getLsbD 31 = true then BitVec.twoPow 64 32 else 0#64).getLsbD i = (s.getLsbD 31 && decide (32 = i)) := by
    cases s.getLsbD 31 with
    | true => simp only [if_true, BitVec.getLsbD_twoPow]; simp
    | false => simp
  simp only [BitVec.getLsbD_xor, hx, BitVec.getLsbD_shiftLeft, BitVec.getLsbD_setWidth]
  by_cases h0 : i < 1
  · have : i = 0 := by omega
    subst this
    simp
  · by_cases h32 : i = 32
    · subst h32
      simp
    · by_cases h31 : i < 32
      · have n32 : ¬ 32 = i := by omega
        have l64 : i - 1 < 64 := by omega
        simp only [hi, h0, h31, n32, l64, decide_true, decide_false, Bool.not_false, Bool.true_and, Bool.and_false, Bool.xor_false]
      · have n32 : ¬ 32 = i := by omega
        have l64 : i - 1 < 64 := by omega
        have g := BitVec.getLsbD_of_ge s (i - 1) (by omega)
        simp only [hi, h0, h31, n32, g, decide_true, decide_false, Bool.not_false, Bool.true_and, Bool.and_false, Bool.false_and, Bool.xor_false]
/-- A remainder's step in 64 bits. -/
theorem rem_step (s : BitVec 32) (b : Bool) : ((s.setWidth 64 <<< 1) ^^^ (if b then 1#64 else 0#64)) ^^^ (if s.msb then 0x11edc6f41#64 else 0#64) = (crcZ s ^^^ bit0 b).setWidth 64 := by
  have e1 : (0x11edc6f41#64) = 0x100000000#64 ^^^ (0x1edc6f41#32).setWidth 64 := by decide
  have e2 : (1#64) = (1#32).setWidth 64 := by decide
  have e3 : (0#64) = (0#32).setWidth 64 := by decide
  have lc : ∀ x y z : BitVec 64, x ^^^ (y ^^^ z) = y ^^^ (x ^^^ z) := fun x y z => by rw [← BitVec.xor_assoc, BitVec.xor_comm x y, BitVec.xor_assoc]
  have cancel : ∀ x y : BitVec 64, x ^^^ (x ^^^ y) = y := fun x y => by rw [← BitVec.xor_assoc, BitVec.xor_self, BitVec.zero_xor]
  unfold crcZ bit0
  rw [shl64]
  cases b <;> cases s.msb <;> simp only [if_true, if_false, Bool.false_eq_true, BitVec.setWidth_xor, BitVec.xor_zero, e1, e2, BitVec.xor_assoc]
  · simp only [cancel]
  · rw [lc ((1#32).setWidth 64), cancel, BitVec.xor_comm ((1#32).setWidth 64)]
theorem up64 (s : BitVec 32) : BitVec.ofInt 64 (s.toNat : Int) = s.setWidth 64 := by
  apply BitVec.eq_of_toNat_eq
  have := s.isLt
  simp
theorem up64_2 (s : BitVec 32) : BitVec.ofInt 64 ((s.toNat : Int) * 2) = s.setWidth 64 <<< 1 := by
  apply BitVec.eq_of_toNat_eq
  have := s.isLt
  simp [BitVec.toNat_shiftLeft, Nat.shiftLeft_eq]
  omega
theorem down64 (s : BitVec 32) : (s.setWidth 64).toNat = s.toNat := by
  have := s.isLt
  simp
  omega
theorem bitsOf_get (c : UInt8) (j : Nat) (hj : j < 8) : (bitsOf c)[j]? = some (c.toBitVec.getLsbD (7 - j)) := by
  unfold bitsOf
  match j, hj with
  | 0, _ => rfl
  | 1, _ => rfl
  | 2, _ => rfl
  | 3, _ => rfl
  | 4, _ => rfl
  | 5, _ => rfl
  | 6, _ => rfl
  | 7, _ => rfl
theorem bitsOf_length (c : UInt8) : (bitsOf c).length = 8 := rfl
end Go.Proofs.YtfoldlbnkfnenaaGreat
/- The reference's remainder (parapetref01): Degree, Bits, Of at the generator. -/
namespace Go.Proofs.YtfoldlbnkfnenaaGreat
open Go.RowKit
set_option maxHeartbeats 4000000
set_option maxRecDepth 100000

theorem and1_64 (x : Int) (h0 : 0 ≤ x) (h1 : x < 18446744073709551616) : bits .and .u64 x 1 = x % 2 := bits_mask .u64 64 (by decide) (fun n a b => IntWalk.u64_in n ⟨a, by simp at b; omega⟩) 1 (by decide) x h0 h1
theorem and1_8 (x : Int) (h0 : 0 ≤ x) (h1 : x < 256) : bits .and .u8 x 1 = x % 2 := bits_mask .u8 8 (by decide) (fun n a b => IntWalk.u8_in n ⟨a, by simp at b; omega⟩) 1 (by decide) x h0 h1
theorem gen_bit (k : Nat) : (bits .and .u64 ((4812730177 : Int) / 2 ^ k) 1 != 0) = decide ((4812730177 : Nat) / 2 ^ k % 2 = 1) := by
  have e : (4812730177 : Int) / 2 ^ k = ((4812730177 / 2 ^ k : Nat) : Int) := by simp
  have hle : 4812730177 / 2 ^ k ≤ 4812730177 := Nat.div_le_self _ _
  rw [e]
  generalize 4812730177 / 2 ^ k = y at *
  rw [and1_64 _ (by omega) (by omega), Bool.eq_iff_iff]
  simp
  omega
theorem refDegree_any (w : World) : Calls Tryz.prog 147 #[.int .u64 4812730177] w fun e w' => e = .returned (.int .i64 32) ∧ w' = w := by
  go_enter Tryz.func147, Tryz.ntmps147
  go_wp2_with fail
  go_loopg [3, 4] 64 (fun q v3 v4 wr => ∃ (k : Nat), k + q = 64 ∧ v4 = .int .i64 k ∧ v3 = .int .i64 (degTo k) ∧ wr = w)
  case atStart => exact ⟨0, rfl, rfl, rfl, rfl⟩
  case round =>
    obtain ⟨k, hq, rfl, rfl, rfl⟩ := hrel
    have hs := degTo_succ k
    have hg := gen_bit k
    by_cases hk : k < 64
    · go_wp2_with fail
      · go_roundg (64 - (k + 1))
        case measure => omega
        case rel =>
          rename_i h
          refine ⟨k + 1, by omega, by go_num, ?_, rfl⟩
          rw [hs, if_pos h]
      · go_roundg (64 - (k + 1))
        case measure => omega
        case rel =>
          rename_i h
          refine ⟨k + 1, by omega, by go_num, ?_, rfl⟩
          rw [hs, if_neg h]
    · obtain rfl : k = 64 := by omega
      clear hs hg
      go_wp2_with fail
      go_ret
      exact ⟨by simp [degTo_64], rfl⟩
theorem ofInt_nat64 (s : BitVec 64) : BitVec.ofInt 64 (s.toNat : Int) = s := by simp
theorem msb64 (s : BitVec 32) : (bits .and .u64 ((s.toNat : Int) / 2147483648) 1 != 0) = s.msb := by
  have h := s.isLt
  rw [and1_64 _ (by omega) (by omega), msb32, Bool.eq_iff_iff]
  simp
  omega
theorem rem_nat (s : BitVec 32) (b : Bool) (x : BitVec 64) (h : ((s.setWidth 64 <<< 1) ^^^ (if b then 1#64 else 0#64)) ^^^ (if s.msb then 0x11edc6f41#64 else 0#64) = x) : ((crcZ s ^^^ bit0 b).toNat : Int) = (x.toNat : Int) := by
  rw [← h, rem_step, down64]
theorem rx_ff (s : BitVec 32) (h : s.msb = false) : (s.toNat : Int) * 2 = ((crcZ s ^^^ bit0 false).toNat : Int) := by
  rw [rem_nat s false (s.setWidth 64 <<< 1) (by rw [h]; simp), ← up64_2]
  have := s.isLt
  rw [BitVec.toNat_ofInt]
  omega
theorem rx_ft (s : BitVec 32) (h : s.msb = true) : bits .xor .u64 ((s.toNat : Int) * 2) 4812730177 = ((crcZ s ^^^ bit0 false).toNat : Int) := by
  rw [rem_nat s false (s.setWidth 64 <<< 1 ^^^ 0x11edc6f41#64) (by rw [h]; simp), xor64, up64_2]
  rfl
theorem rx_tf (s : BitVec 32) (h : s.msb = false) : bits .xor .u64 ((s.toNat : Int) * 2) 1 = ((crcZ s ^^^ bit0 true).toNat : Int) := by
  rw [rem_nat s true (s.setWidth 64 <<< 1 ^^^ 1#64) (by rw [h]; simp), xor64, up64_2]
  rfl
theorem rx_tt (s : BitVec 32) (h : s.msb = true) : bits .xor .u64 (bits .xor .u64 ((s.toNat : Int) * 2) 1) 4812730177 = ((crcZ s ^^^ bit0 true).toNat : Int) := by
  rw [rem_nat s true ((s.setWidth 64 <<< 1 ^^^ 1#64) ^^^ 0x11edc6f41#64) (by rw [h]; simp), xor64 ((s.toNat : Int) * 2), up64_2, xor64, ofInt_nat64]
  rfl
theorem crcDef_take {l : List Bool} {k : Nat} (h : k < l.length) : crcDef 0#32 (l.take (k + 1)) = crcZ (crcDef 0#32 (l.take k)) ^^^ bit0 l[k] := by
  unfold crcDef
  rw [List.take_succ_eq_append_getElem h, List.foldl_append]
  rfl
theorem refBits_any (A : Option Addr) (n c : Nat) (l : List Bool) (B : Nat) (w : World) (hr : Reads w B 1 A n (l.map Value.bool)) (hn : n < 1073741824) :
    Calls Tryz.prog 136 #[.slice A n c, .int .u64 4812730177] w fun e w' => e = .returned (.int .u64 ((crcDef 0#32 l).toNat : Int)) ∧ w' = w := by
  have hl : l.length = n := by have := hr.1; simpa using this
  have Hl := Lib.hid hl
  clear hl
  go_enter Tryz.func136, Tryz.ntmps136
  go_wp2_with fail
  refine (refDegree_any w).mono ?_
  rintro e w1 ⟨rfl, rfl⟩
  go_wp2_with fail
  go_loopg [6, 7, 8] n (fun q v6 v7 _v8 wr => ∃ (k : Nat), k + q = n ∧ v7 = .int .i64 k ∧ v6 = .int .u64 ((crcDef 0#32 (l.take k)).toNat : Int) ∧ wr = w1)
  case atStart => exact ⟨0, by omega, rfl, rfl, rfl⟩
  case round =>
    obtain ⟨k, hq, rfl, rfl, rfl⟩ := hrel
    by_cases hk : k < n
    · obtain ⟨ad, u, rfl, hb, hu, hcell⟩ := hr.at_ hk
      have hkl : k < l.length := by rw [Hl.out]; exact hk
      obtain rfl : u = .bool l[k] := by
        simp [hkl] at hu
        exact hu.symm
      have htk := crcDef_take hkl
      generalize crcDef 0#32 (l.take k) = s at *
      have hm := msb64 s
      generalize l[k] = bk at *
      cases bk
      all_goals go_wp2_with fail
      all_goals
        go_roundg (n - (k + 1))
        case measure => omega
        case rel =>
          rename_i h
          refine ⟨k + 1, by omega, by go_num, ?_, rfl⟩
          rw [htk]
          first | rw [← rx_ff _ h] | rw [← rx_ft _ h] | rw [← rx_tf _ h] | rw [← rx_tt _ h]
    · obtain rfl : k = n := by omega
      go_wp2_with fail
      go_ret
      refine ⟨?_, rfl⟩
      have hnl := Hl.out
      rw [List.take_of_length_le (by omega)]
      rfl
theorem bool_info : (Tryz.prog.info? 4).map (fun i => (i.zero, i.size, i.bytes)) = some (some (.bool false), 1, 1) := by kernel_rfl
theorem bool_one (l : List Bool) : ∀ u ∈ l.map Value.bool, u.oneCell' = true := by
  intro u hu
  obtain ⟨c, _, rfl⟩ := List.mem_map.1 hu
  rfl
theorem byte_bit (c : UInt8) (j : Nat) : (bits .and .u8 ((c.toNat : Int) / 2 ^ (7 - j)) 1 != 0) = c.toBitVec.getLsbD (7 - j) := by
  have e : (c.toNat : Int) / 2 ^ (7 - j) = ((c.toNat / 2 ^ (7 - j) : Nat) : Int) := by simp
  have hle : c.toNat / 2 ^ (7 - j) ≤ c.toNat := Nat.div_le_self _ _
  have hc := c.toNat_lt
  have hb : c.toBitVec.getLsbD (7 - j) = decide (c.toNat / 2 ^ (7 - j) % 2 = 1) := by
    rw [← BitVec.testBit_toNat, Nat.testBit_eq_decide_div_mod_eq]
    rfl
  rw [e, hb]
  generalize c.toNat / 2 ^ (7 - j) = y at *
  rw [and1_8 _ (by omega) (by omega), Bool.eq_iff_iff]
  simp
  omega
theorem flat_take {l : List UInt8} {k : Nat} (h : k < l.length) : (l.take (k + 1)).flatMap bitsOf = (l.take k).flatMap bitsOf ++ bitsOf l[k] := by
  rw [List.take_succ_eq_append_getElem h, List.flatMap_append]
  simp
theorem bits_take (c : UInt8) {j : Nat} (h : j < 8) : (bitsOf c).take (j + 1) = (bitsOf c).take j ++ [c.toBitVec.getLsbD (7 - j)] := by
  have hl : j < (bitsOf c).length := h
  have hg := bitsOf_get c j h
  rw [List.take_succ_eq_append_getElem hl]
  rw [List.getElem?_eq_getElem hl] at hg
  rw [Option.some.inj hg]
/-- make with room. -/
theorem run_room {t e : TypeId} {z : Value} (ht : (Tryz.prog).underlying t = some (.slice e)) (hinfo : ((Tryz.prog).info? e).map (fun i => (i.zero, i.size, i.bytes)) = some (some z, 1, 1)) (hz1 : z.cells = #[z]) (c : Nat) (hc : c ≤ 100000000) (w : World) :
    (Instr.makeSlice t (.int .i64 0) (.int .i64 (c : Int))).run Tryz.prog w = .ok (.slice (some ⟨w.heap.size, 0, none⟩) 0 c) (w.alloc (.cells (madeCells #[z] c) e)) := by
  obtain ⟨i, hi, hzz⟩ := Option.map_eq_some_iff.1 hinfo
  simp only [Prod.mk.injEq] at hzz
  obtain ⟨hz, hs, hb⟩ := hzz
  have hr := run_make (P := Tryz.prog) w t e i z ht hi hz .i64 .i64 0 c (Int.le_refl _) (by omega) (by rw [hb]; omega) (by omega)
  simp only [Int.toNat_natCast, hs, Nat.mul_one, hz1, Int.toNat_zero] at hr
  exact hr
theorem own_room (w : World) (z : Value) (e : TypeId) (c : Nat) (hc : c ≤ 100000000) : (w.alloc (.cells (madeCells #[z] c) e)).ownsRow w.heap.size e 1 (.slice (some ⟨w.heap.size, 0, none⟩) 0 c) 0 [] :=
  World.ownsRow_made w _ c (Nat.le_refl _) (by unfold maxLen; omega) (by simp [size_madeCells])
theorem refOf_any (A : Option Addr) (n c : Nat) (l : List UInt8) (B : Nat) (w : World) (hr : Reads w B 1 A n (u8c l)) (hB : B ≤ w.heap.size) (hn : n < 1000000) :
    Calls Tryz.prog 117 #[.slice A n c, .int .u64 4812730177] w fun e w' => e = .returned (.tuple #[.int .u64 ((crcDef 0#32 (l.flatMap bitsOf)).toNat : Int), .int .i64 0]) ∧ Below w.heap.size w w' := by
  have hl : l.length = n := by have := hr.1; simpa [u8c] using this
  have Hl := Lib.hid hl
  clear hl
  obtain ⟨i0, hi0, hz0, hz1, hz2⟩ := info_parts bool_info
  have hmk := fun w => run_room (t := 211) (z := .bool false) Tryz.underlying211 bool_info rfl (8 * n) (by omega) w
  rw [show ((8 * n : Nat) : Int) = 8 * (n : Int) by simp] at hmk
  have hown0 := own_room w (.bool false) 4 (8 * n) (by omega)
  have hb0 : Below w.heap.size w (w.alloc (.cells (madeCells #[.bool false] (8 * n)) 4)) := (Below.refl _ _).alloc (Nat.le_refl _) _
  go_enter Tryz.func117, Tryz.ntmps117
  go_wp2_with fail
  clear hmk
  go_loopg [6, 7, 8] n (fun q v6 v7 _v8 wr => ∃ (k : Nat) (A' : Option Addr) (c' : Nat), k + q = n ∧ v7 = .int .i64 k ∧ v6 = .slice A' (8 * k) c' ∧ wr.ownsRow w.heap.size 4 1 (.slice A' (8 * k) c') (8 * k) (((l.take k).flatMap bitsOf).map Value.bool) ∧ Below w.heap.size w wr)
  case atStart => exact ⟨0, _, _, by omega, rfl, rfl, hown0, hb0⟩
  case round =>
    obtain ⟨k, A1, c1, hq, rfl, rfl, hown1, hb1⟩ := hrel
    clear hown0 hb0
    by_cases hk : k < n
    · obtain ⟨ad, u, rfl, hbA, hu, hcell⟩ := hr.at_ hk
      have hkl : k < l.length := by rw [Hl.out]; exact hk
      obtain rfl : u = .int .u8 (l[k].toNat : Int) := by
        simp [u8c, hkl] at hu
        exact hu.symm
      have hft := flat_take hkl
      have hlen : ((l.take k).flatMap bitsOf).length = 8 * k := by simpa using hown1.1
      generalize l[k] = ck at *
      generalize (l.take k).flatMap bitsOf = acc at *
      go_wp2_with fail
      go_loopg [6, 8] 8 (fun q v6 v8 wi => ∃ (j : Nat) (A' : Option Addr) (c' : Nat), j + q = 8 ∧ v8 = .int .i64 (7 - (j : Int)) ∧ v6 = .slice A' (8 * k + j) c' ∧ wi.ownsRow w.heap.size 4 1 (.slice A' (8 * k + j) c') (8 * k + j) ((acc ++ (bitsOf ck).take j).map Value.bool) ∧ Below w.heap.size w wi)
      case atStart => exact ⟨0, _, _, rfl, rfl, rfl, by simpa using hown1, hb1⟩
      case round =>
        obtain ⟨j, A2, c2, hqj, rfl, rfl, hown2, hb2⟩ := hrel
        clear hown1 hb1
        by_cases hj : j < 8
        · have hp : ((7 : Int) - (j : Int)) = ((7 - j : Nat) : Int) := by omega
          have hbit := byte_bit ck j
          have htk := bits_take ck hj
          have hlen2 : (acc ++ (bitsOf ck).take j).length = 8 * k + j := by simpa using hown2.1
          have hcw : wr.cell? (ad.add k) = some (.int .u8 (ck.toNat : Int)) := (hb2.cell (p := ad.add k) (by rw [block_of_add]; omega)).trans hcell
          rw [hp]
          obtain ⟨m7, Hm7⟩ : ∃ m7, Hid (m7 = 7 - j) := ⟨_, Lib.hid rfl⟩
          rw [← Hm7.out] at hbit htk ⊢
          have hm8 : m7 < 8 := by have := Hm7.out; omega
          clear hp hcell
          generalize ck.toBitVec.getLsbD m7 = bt at *
          have hlt2 := hown2.lt
          have hs2 := hb2.size
          go_wp2_with (at_builtin; refine wpList_append_any _ rfl (.tmp 25) (.tmp 34) _ rfl w.heap.size 4 i0 _ 1 1 Tryz.underlying211 hi0 hz0 hz1 hz2 rfl (by omega) (.slice A2 (8 * k + j) c2) (8 * k + j) _ rfl (hown2.alloc _) (wr.heap.size + 1) (some ⟨wr.heap.size, 0, none⟩) 1 1 [.bool bt] rfl (by simpa [hbit] using Reads.of_blk (Blk.new wr 4 #[.bool bt]) (B := wr.heap.size + 1) (size := 1) (n := 1) (by omega) rfl) (by simp [Value.oneCell']) (by unfold maxLen; omega) (by omega) (by simp; omega) ?_; intro v3 w3 hown3 hg3 hat3; obtain ⟨A3, c3, rfl⟩ := own_slice hown3)
          go_roundg (8 - (j + 1))
          case measure => omega
          case rel =>
            refine ⟨j + 1, A3, c3, by omega, ?_, ?_, ?_, ?_⟩
            · have := Hm7.out; rw [this]; go_num
            · rw [Nat.add_assoc]
            · rw [htk, ← List.append_assoc, List.map_append]
              exact hown3
            · exact (hb2.alloc hs2 _).grown hg3 (by simp; omega) (fun k hk => (hlt2 k hk).1)
        · obtain rfl : j = 8 := by omega
          go_wp2_with fail
          go_roundg (n - (k + 1))
          case measure => omega
          case rel =>
            refine ⟨k + 1, A2, c2, by omega, by go_num, ?_, ?_, hb2⟩
            · rw [Nat.mul_add]
            · rw [hft]
              have e8 : (bitsOf ck).take 8 = bitsOf ck := rfl
              rw [e8] at hown2
              exact hown2
    · obtain rfl : k = n := by omega
      have hnl := Hl.out
      rw [List.take_of_length_le (by omega)] at hown1
      go_wp2_with fail
      refine (refBits_any A1 (8 * k) c1 _ wr.heap.size wr (Reads.of_own hown1) (by omega)).mono ?_
      rintro e w2 ⟨rfl, rfl⟩
      go_wp2_with fail
      refine bodyPost_ret (v := .tuple #[.int .u64 ((crcDef 0#32 (l.flatMap bitsOf)).toNat : Int), .int .i64 0]) (by simp [results, Tryz.results117, go_sem]) rfl ⟨rfl, hb1⟩
end Go.Proofs.YtfoldlbnkfnenaaGreat
