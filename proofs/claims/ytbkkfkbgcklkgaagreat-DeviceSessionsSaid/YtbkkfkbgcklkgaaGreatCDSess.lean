/- parapetlaw13.DeviceSessions. -/
import Derived.Test.YtbkkfkbgcklkgaaGreatBase13
namespace Go.Proofs.YtbkkfkbgcklkgaaGreat
open Go.RowKit
set_option maxHeartbeats 10000000
set_option maxRecDepth 100000

theorem wish_log (d : DevM) : d.wish.1.log.length ≤ d.log.length + 2 := by
  have hs := strange_log d
  unfold DevM.wish
  have hb : ∀ g : DevM, g.begin_.1.log.length ≤ g.log.length + 1 := by
    intro g
    unfold DevM.begin_
    generalize g.cell.next g.m = r
    obtain ⟨c, m', s, e⟩ := r
    simp only
    split
    · exact dtrip_log _ _
    · split
      · simp [DevM.life]
      · simp [DevM.leave]
  split
  · simp only
    split
    · have := hb d.strange.1; omega
    · split <;> (simp only; omega)
  · have := hb d; omega
theorem reset_log (d : DevM) (n : Int) : (d.reset n).1.log = d.log := by
  unfold DevM.reset
  split
  · rfl
  · simp only
    split <;> rfl
/-- A slice of ints that came in, read as a list. -/
def IntsD (w : World) (B : Nat) (A : Option Addr) (n : Nat) (zs : List Int) : Prop := Reads w B 1 A n (zs.map (Value.int .i64))
theorem IntsD.get {w : World} {B : Nat} {A : Option Addr} {n : Nat} {zs : List Int} (h : IntsD w B A n zs) {k : Nat} (hk : k < n) : ∃ ad, A = some ad ∧ ad.block < B ∧ w.cell? (ad.add k) = some (.int .i64 (zs.getD k 0)) ∧ zs.getD k 0 ∈ zs := by
  obtain ⟨ad, u, h1, h2, h3, h4⟩ := h.at_ hk
  have hl : zs.length = n := by have := h.1; simpa using this
  have hkl : k < zs.length := by omega
  rw [List.getElem?_map, List.getElem?_eq_getElem hkl] at h3
  simp only [Option.map_some, Option.some.injEq] at h3
  have e : zs.getD k 0 = zs[k] := by rw [List.getD_eq_getElem?_getD, List.getElem?_eq_getElem hkl]; rfl
  refine ⟨ad, h1, h2, by rw [h4, ← h3, e], by rw [e]; exact List.getElem_mem hkl⟩
theorem devArm_any (B a mb : Nat) (d : DevM) (F : Nat → Prop) (n : Int) (w : World) (hI : DevIs B w a mb d F) (hn : n < 9223372036854775808) :
    Calls Tryz.prog 30 #[.pointer (some ⟨mb, 0, none⟩), .int .i64 n] w fun e w' => e = .returned (.int .i64 (d.m.arm n).2) ∧ DevTo B w a mb { d with m := (d.m.arm n).1 } F w' := by
  have hI0 := hI
  obtain ⟨⟨κ, c, dd, v, g, val, hH, hF⟩, hlo⟩ := hI
  refine (memArm_any mb d.m _ n w hH.mem hn).mono ?_
  rintro e w' ⟨rfl, t⟩
  exact ⟨rfl, hH.toMem hI0 hF t⟩
theorem arm_rest {d : DevM} {V : Int} (h : d.Rest V) (n : Int) : DevM.Rest { d with m := (d.m.arm n).1 } V :=
  ⟨h.state, h.cell, h.mem.arm n, by rw [show ({ d with m := (d.m.arm n).1 } : DevM).m = (d.m.arm n).1 from rfl, MemM.arm_off]; exact h.off⟩
/-- A wish to a device at rest: it begins the next session, or the power goes. -/
theorem rest_receive {d : DevM} {V : Int} (h : d.Rest V) (hp : d.p = smallM) (hV : V < d.max) (hmax : d.max < 4294967296) :
    d.receive wishU.encode = d.wish ∧ (d.wish.2.2 = 0 ∧ d.wish.1.session = V + 1 ∨ d.wish.2.2 = 70) := by
  obtain ⟨w1, w2, w3⟩ := DevM.wish_sound h.state h.cell h.mem h.off hV hmax
  have hs := h.state
  rw [wish_receive hp (by omega)]
  rcases w3 with ⟨e, s, _⟩ | ⟨e, _, _⟩
  · exact ⟨by rw [if_pos (.inl e)], .inl ⟨e, s⟩⟩
  · exact ⟨by rw [if_pos (.inr e)], .inr e⟩
/-- Behind the wish: awake again, for good. -/
theorem rest_back {d : DevM} {V : Int} (h : d.Rest V) (n : Int) (hn : 0 ≤ n) (hV : V < d.max) (hmax : d.max < 4294967296) :
    ∃ V', DevM.Rest ((d.wish.1.reset n).1.reset 0).1 V' ∧ ((d.wish.1.reset n).1.reset 0).1.p = d.p ∧ ((d.wish.1.reset n).1.reset 0).1.max = d.max ∧ ((d.wish.1.reset n).1.reset 0).2 = 0 ∧ V ≤ V' ∧ V' ≤ V + 1 ∧ (d.wish.2.2 = 0 → V' = V + 1) := by
  obtain ⟨w1, w2, w3⟩ := DevM.wish_sound h.state h.cell h.mem h.off hV hmax
  have h0 := h.mem.nonneg
  have hmx : d.wish.1.max ≠ 0 := by rw [w2]; omega
  have fin : ∀ V', d.wish.1.m.Sound V' → DevM.Rest ((d.wish.1.reset n).1.reset 0).1 V' ∧ ((d.wish.1.reset n).1.reset 0).1.p = d.p ∧ ((d.wish.1.reset n).1.reset 0).1.max = d.max ∧ ((d.wish.1.reset n).1.reset 0).2 = 0 := fun V' hV' => by
    obtain ⟨b1, b2, b3, _⟩ := DevM.reset_sound n hn hV' hmx
    obtain ⟨c1, c2, c3, c4⟩ := DevM.reset_sound (d := (d.wish.1.reset n).1) 0 (by omega) b1 (by rw [b3]; exact hmx)
    obtain ⟨c4, c5, c6, c7, c8, _⟩ := c4 rfl
    exact ⟨⟨c5, by rw [c3]; exact c7, c1, c8⟩, by rw [c2, b2, w1], by rw [c3, b3, w2], c4⟩
  rcases w3 with ⟨e, s, hS⟩ | ⟨e, s, hS⟩
  · obtain ⟨f1, f2, f3, f4⟩ := fin _ hS
    exact ⟨V + 1, f1, f2, f3, f4, by omega, by omega, fun _ => rfl⟩
  · obtain ⟨f1, f2, f3, f4⟩ := fin _ hS
    exact ⟨V, f1, f2, f3, f4, by omega, by omega, fun h => by rw [e] at h; cases h⟩
/-- What a round needs: the device; what came in; the wish's slice. -/
structure Carry (w : World) (S7 n : Nat) (A7 : Option Addr) (l : List UInt8) (a mb : Nat) (wr : World) (d : DevM) (G : Nat → Prop) : Prop where
  dev : DevIs w.heap.size wr a mb d G
  below : Below w.heap.size w wr
  reads : Reads wr S7 1 A7 n (u8c l)
  apart : ∀ ad, A7 = some ad → ad.block < S7 → ¬ G ad.block
  size : S7 ≤ wr.heap.size
theorem Carry.to {w wr w1 : World} {S7 n a mb : Nat} {A7 : Option Addr} {l : List UInt8} {d d1 : DevM} {G : Nat → Prop} (h : Carry w S7 n A7 l a mb wr d G) (t : DevTo w.heap.size wr a mb d1 G w1) : Carry w S7 n A7 l a mb w1 d1 (grow G wr w1) := by
  have hs := t.keep.size
  refine ⟨t.is_, h.below.trans (t.keep.below h.below.size (fun x hx => (h.dev.lo x hx).1)), ⟨h.reads.1, fun hn => ?_⟩, fun ad e hlt hx => ?_, Nat.le_trans h.size hs⟩
  · obtain ⟨ad, e, hb, _⟩ := h.reads.2 hn
    exact (h.reads.keepS t.keep h.size (fun ad' e' => by rw [e] at e'; cases e'; exact h.apart _ e hb)).2 hn
  · rcases hx with hx | hx
    · exact h.apart ad e hlt hx
    · have := h.size; omega
theorem Carry.more {w wr w1 : World} {S7 n a mb : Nat} {A7 : Option Addr} {l : List UInt8} {d : DevM} {G : Nat → Prop} (h : Carry w S7 n A7 l a mb wr d G) (hb : Below wr.heap.size wr w1) : Carry w S7 n A7 l a mb w1 d G :=
  ⟨h.dev.below hb, h.below.trans (hb.mono h.below.size), h.reads.below (hb.mono h.size), h.apart, Nat.le_trans h.size hb.size⟩
theorem deviceSessions_law (A0 : Option Addr) (n0 c0 : Nat) (z0 : List Int) (A1 : Option Addr) (n1 c1 : Nat) (z1 : List Int) (w : World) (h0 : IntsD w w.heap.size A0 n0 z0) (h1 : IntsD w w.heap.size A1 n1 z1) (r0 : ∀ z ∈ z0, -9223372036854775808 ≤ z ∧ z < 9223372036854775808) (r1 : ∀ z ∈ z1, -9223372036854775808 ≤ z ∧ z < 9223372036854775808) (hn0 : n0 ≤ 17592186044416) (hn1 : n1 ≤ 17592186044416) :
    Calls Tryz.prog 5 #[.slice A0 n0 c0, .slice A1 n1 c1] w fun e w' => e = .returned (.bool true) ∧ Below w.heap.size w w' := by
  have hfld := end_state
  obtain ⟨i0, hi0, hz0, hz1, hz2⟩ := info_parts byte_info
  go_enter Tryz.func5, Tryz.ntmps5
  go_wp2_with fail
  refine (lawAwakeD_any w).mono ?_
  rintro e w1 ⟨rfl, hb1⟩
  go_wp2_with fail
  refine (memNew16_any w1).mono ?_
  rintro e w2 ⟨mb, rfl, hM, hb2⟩
  have hb2' := hb1.trans (hb2.mono hb1.size)
  go_wp2_with fail
  refine (lawSmall_any w2).mono ?_
  rintro e w3 ⟨rfl, hb3⟩
  have hs1 := hb1.size
  have hb3' := hb2'.trans (hb3.mono hb2'.size)
  go_wp2_with fail
  refine (devFirst_any mb _ w.heap.size 1073741824 w3 (hM.below hb3) (fun x hx => by have := hb3.size; omega) hb3'.size (by omega)).mono ?_
  rintro e w4 ⟨a, F, rfl, hI, hk4, hF⟩
  have hb4 : Below w.heap.size w w4 := hb3'.trans (hk4.below hb3'.size (fun x hx => by omega))
  go_wp2_with fail
  refine (lawSmall_any w4).mono ?_
  rintro e w5 ⟨rfl, hb5⟩
  go_wp2_with fail
  refine (r9sign_any smallM w5 small_ok small_lawful).mono ?_
  rintro e w6 ⟨v6, rfl, hown6, hb6⟩
  obtain ⟨A6, c6, rfl⟩ := own_slice hown6
  have hb56 := hb5.trans (hb6.mono hb5.size)
  have hs4 := hb4.size
  have hlf := lawFrame_any 1 7 0 0 0 smallM.sign A6 4 c6 w6.heap.size w6 (sign_length _) (by omega) (by omega) (by omega) (Reads.of_own hown6) (Nat.le_refl _)
  obtain ⟨wl, Hwl⟩ : ∃ n, Hid (n = wishU.encode) := ⟨_, Lib.hid rfl⟩
  obtain ⟨wn, Hwn⟩ : ∃ n, Hid (n = wl.length) := ⟨_, Lib.hid rfl⟩
  rw [show (UnitM.mk 1 7 0 0 0 smallM.sign).encode = wishU.encode from rfl, ← Hwl.out, ← Hwn.out] at hlf
  go_wp2_with fail
  refine hlf.mono ?_
  rintro e w7 ⟨v7, rfl, hown7, hb7⟩
  obtain ⟨A7, c7, rfl⟩ := own_slice hown7
  have hb47 := hb56.trans (hb7.mono hb56.size)
  have hb07 := hb4.trans (hb47.mono hs4)
  have hI7 := hI.below hb47
  have hr7 := Reads.of_own hown7
  have hlt7 := hown7.lt
  have hcap7 := own_cap hown7
  have hsm : wn ≤ 1000 := by rw [Hwn.out, Hwl.out]; exact encode_small _
  have hs6 := hb56.size
  have hA7 : ∀ ad, A7 = some ad → ¬ F ad.block := fun ad e hx => by subst e; have := (hlt7 ad.block rfl).1; have := (hI.lo ad.block hx).2; omega
  clear hlf hown7 hlt7 hown6 hM hk4 hF hb1 hb2 hb2' hb3 hb3' hb5 hb6 hb7 hb47 hb56 hs1 hs6
  obtain ⟨S7, HS7⟩ : ∃ n, Hid (n = w7.heap.size) := ⟨_, Lib.hid rfl⟩
  rw [← HS7.out] at hr7
  have hC7 : Carry w S7 wn A7 wl a mb w7 (DevM.first 1073741824) F := ⟨hI7, hb07, hr7, fun ad e _ => hA7 ad e, by rw [HS7.out]; exact Nat.le_refl _⟩
  clear hI7 hb07 hr7 hA7 hI hb4 hs4
  go_wp2_with fail
  go_loopg [10, 11] 100 (fun q v10 v11 wr => ∃ (i : Nat) (last V : Int) (d : DevM) (G : Nat → Prop), v11 = .int .i64 i ∧ i + q = 100 ∧ i ≤ n0 ∧ v10 = .int .u32 last ∧ 0 ≤ last ∧ last ≤ V ∧ V ≤ i ∧ d.Inv ∧ d.Rest V ∧ Hid (d.p = smallM ∧ d.max = 1073741824) ∧ d.log.length ≤ 5 * i ∧ Carry w S7 wn A7 wl a mb wr d G)
  case atStart => exact ⟨0, 0, 0, DevM.first 1073741824, F, rfl, by omega, by omega, rfl, by omega, by omega, by omega, first_inv _ (by omega), ⟨rfl, rfl, ⟨by show 10 ≤ (List.replicate 16 (0 : UInt8)).length; decide, .inl ⟨rfl, rfl, rfl⟩⟩, rfl⟩, Lib.hid ⟨rfl, rfl⟩, by simp [DevM.first], hC7⟩
  case round =>
    obtain ⟨i, last, V, d, G, rfl, hq, hin, rfl, hl0, hlV, hVi, hinv, hrest, Hp, hlog, hC⟩ := hrel
    clear hC7
    by_cases hlt : i < n0 ∧ i < 100
    · obtain ⟨g1, g2⟩ := hlt
      have h0' := h0.below hC.below
      obtain ⟨ad, rfl, hbl, hcell, hmem⟩ := (show IntsD wr w.heap.size A0 n0 z0 from h0').get g1
      have hcr := r0 _ hmem
      generalize z0.getD i 0 = cut at hcell hcr hmem
      clear h0'
      have hD : ∀ d1 W1 G1, Carry w S7 wn A7 wl a mb W1 d1 G1 → d1.Rest V → Hid (d1.p = smallM ∧ d1.max = 1073741824) → d1.Inv → d1.log.length ≤ 5 * i → ∃ k fr er, (∀ A c Br (W : World), DevIs w.heap.size W a mb d1 G1 → Reads W Br 1 A wn (u8c wl) → Br ≤ W.heap.size → wn ≤ c → Calls Tryz.prog 19 #[.pointer (some ⟨a, 0, none⟩), .slice A wn c] W fun e w' => DevAns w.heap.size W a mb G1 (k, fr, er) e w') ∧ (er = 0 ∧ k.session = V + 1 ∨ er = 70) ∧ k.Inv ∧ k.log.length ≤ 5 * i + 2 ∧ ∀ n : Int, 0 ≤ n → n < 100 → ∃ k2 k3 V', (∀ W G, DevIs w.heap.size W a mb k G → Calls Tryz.prog 31 #[.pointer (some ⟨a, 0, none⟩), .int .i64 n] W fun e W' => ∃ v, e = .returned (.int .i64 v) ∧ DevTo w.heap.size W a mb k2 G W') ∧ (∀ W G, DevIs w.heap.size W a mb k2 G → Calls Tryz.prog 31 #[.pointer (some ⟨a, 0, none⟩), .int .i64 0] W fun e W' => e = .returned (.int .i64 0) ∧ DevTo w.heap.size W a mb k3 G W') ∧ (∀ W G, DevIs w.heap.size W a mb k3 G → Calls Tryz.prog 21 #[.pointer (some ⟨a, 0, none⟩)] W fun e W' => ∃ b1 b2 b3 b4 b5 b6 b7 b8, e = .returned (.agg #[.int .i64 1, b1, b2, b3, b4, b5, b6, b7, b8]) ∧ Below W.heap.size W W') ∧ k3.Inv ∧ k3.Rest V' ∧ Hid (k3.p = smallM ∧ k3.max = 1073741824) ∧ k3.log.length ≤ 5 * (i + 1) ∧ V ≤ V' ∧ V' ≤ V + 1 ∧ (er = 0 → V' = V + 1) := by
        intro d1 W1 G1 hC1 hrest1 Hp1 hinv1 hlog1
        obtain ⟨e1, e2⟩ := rest_receive hrest1 Hp1.out.1 (by rw [Hp1.out.2]; omega) (by rw [Hp1.out.2]; omega)
        refine ⟨d1.wish.1, d1.wish.2.1, d1.wish.2.2, fun A c Br W hd hr hBr hc => ?_, ?_, hinv1.wish, by have := wish_log d1; omega, fun n hn hn2 => ?_⟩
        · have := devReceive_any w.heap.size a mb d1 G1 A wn c Br wl W hd hinv1 (by omega) hr hBr hc (by omega)
          rw [show d1.receive wl = d1.wish by rw [Hwl.out]; exact e1] at this
          exact this
        · rcases e2 with e2 | e2
          · exact .inl e2
          · exact .inr e2
        · obtain ⟨V', v1, v2, v3, v4, v5, v6, v7⟩ := rest_back hrest1 n hn (by rw [Hp1.out.2]; omega) (by rw [Hp1.out.2]; omega)
          have hi1 := hinv1.wish
          have hi2 := hi1.reset n
          have hi3 := hi2.reset 0
          have hl2 := reset_log d1.wish.1 n
          have hl3 := reset_log (d1.wish.1.reset n).1 0
          have hl1 := wish_log d1
          refine ⟨(d1.wish.1.reset n).1, ((d1.wish.1.reset n).1.reset 0).1, V', fun W G hd => ?_, fun W G hd => ?_, fun W G hd => ?_, hi3, v1, Lib.hid ⟨v2.trans Hp1.out.1, v3.trans Hp1.out.2⟩, by rw [hl3, hl2]; omega, v5, v6, v7⟩
          · exact (devReset_any w.heap.size a mb _ G n W hd hi1 (by omega)).mono fun e W' h => ⟨_, h.1, h.2⟩
          · have := devReset_any w.heap.size a mb _ G 0 W hd hi2 (by omega)
            rw [v4] at this
            exact this
          · refine (devSee_any w.heap.size a mb _ G W hd hi3).mono ?_
            rintro e W' ⟨x, rfl, _, hb⟩
            have hst : (((d1.wish.1.reset n).1.reset 0).1).see.state = 1 := v1.state
            generalize (((d1.wish.1.reset n).1.reset 0).1).see = em at hst
            obtain ⟨state, session, number, sent, since, latched, request, on, out⟩ := em
            simp only at hst
            subst hst
            exact ⟨_, _, _, _, _, _, _, _, rfl, hb⟩
      have hcut := Classical.em (0 ≤ cut)
      rcases hcut with hcut | hcut
      case' inl =>
        go_wp2_with fail
        refine (devArm_any w.heap.size a mb d G (cut % 9) _ hC.dev (by omega)).mono ?_
        rintro e W1 ⟨rfl, t1⟩
        have hC1 := hC.to t1
        have hrest1 := arm_rest hrest (cut % 9)
        have hinv1 := hinv.arm (cut % 9)
        have Hp1 : Hid (DevM.p { d with m := (d.m.arm (cut % 9)).1 } = smallM ∧ DevM.max { d with m := (d.m.arm (cut % 9)).1 } = 1073741824) := Hp
        have hlog1 : (DevM.log { d with m := (d.m.arm (cut % 9)).1 }).length ≤ 5 * i := hlog
        generalize ({ d with m := (d.m.arm (cut % 9)).1 } : DevM) = d1 at *
        generalize grow G wr W1 = G1 at *
        clear t1 hC hrest Hp hinv hlog hcell
      case' inr =>
        obtain ⟨d1, W1, G1, hW1, hC1, hrest1, Hp1, hinv1, hlog1⟩ : ∃ d1 W1 G1, Hid (W1 = wr) ∧ Carry w S7 wn A7 wl a mb W1 d1 G1 ∧ d1.Rest V ∧ Hid (d1.p = smallM ∧ d1.max = 1073741824) ∧ d1.Inv ∧ d1.log.length ≤ 5 * i := ⟨d, wr, G, Lib.hid rfl, hC, hrest, Hp, hinv, hlog⟩
        rw [← hW1.out] at hcell ⊢
        clear hW1 hC hrest Hp hinv hlog
      all_goals
        obtain ⟨k, fr, er, hrec, her, hinvk, hlogk, hback⟩ := hD d1 W1 G1 hC1 hrest1 Hp1 hinv1 hlog1
        clear hD hrest1 Hp1 hinv1 hlog1
        have hs1 := hC1.below.size
        have hS1 := hC1.size
        have hrd1 := hC1.reads.alloc hS1 (.cells #[] 5)
        go_wp2_with (at_builtin; refine wpList_append_any _ rfl (.tmp 62) (.tmp 63) _ rfl W1.heap.size 5 i0 _ 1 1 Tryz.underlying41 hi0 hz0 hz1 hz2 rfl (by omega) (.slice (some ⟨W1.heap.size, 0, none⟩) 0 0) 0 [] rfl (World.ownsRow_made W1 #[] 0 (Nat.le_refl _) (by unfold maxLen; omega) rfl) S7 A7 wn c7 (u8c wl) rfl hrd1 (u8c_one wl) (by unfold maxLen; omega) (by omega) (by simp) ?_; intro v2 W2 hown2 hg2 hat2; rw [Nat.zero_add, List.nil_append] at hown2; obtain ⟨A2, c2, rfl⟩ := own_slice hown2)
        have hb12 := ((Below.refl W1.heap.size W1).alloc (Nat.le_refl _) (.cells #[] 5)).grown hg2 (by simp) (fun k hk => by simp [Value.ownBlock] at hk; omega)
        have hC2 := hC1.more hb12
        refine (hrec A2 c2 W2.heap.size W2 hC2.dev (Reads.of_own hown2) (Nat.le_refl _) (own_cap hown2)).mono ?_
        rintro e W3 ⟨x3, rfl, hown3, t3⟩
        simp only at hown3
        obtain ⟨A3, c3, rfl⟩ := own_slice hown3
        have hC3 : Carry w S7 wn A7 wl a mb W3 k (grow G1 W2 W3) := hC2.to t3.too
        clear hrec hown3 hown2 hg2 hat2 hrd1 hs1 hS1 hC1 hC2 hb12 t3
        generalize grow G1 W2 W3 = G3 at *
        have hsee := fun W hd => devSee_any w.heap.size a mb k G3 W hd hinvk
        have hses : k.see.session = k.session := rfl
        generalize k.see = em at hsee hses
        obtain ⟨state, session, number, sent, since, latched, request, on, out⟩ := em
        unfold endVal at hsee
        simp only at hses hsee
        go_wp2_with fail
        refine (hsee _ hC3.dev).mono ?_
        rintro e W4 ⟨x4, rfl, hown4, hb4⟩
        obtain ⟨A4, c4, rfl⟩ := own_slice hown4
        have hC4 := hC3.more hb4
        have hb5 := (Below.refl W4.heap.size W4).alloc (Nat.le_refl _) (.cells #[.int .i64 state, .int .u32 session, .int .u32 number, .int .u32 sent, .int .i64 since, .int .i64 latched, .bool request, .bool on, .slice A4 out.length c4] 52)
        have hE5 := Blk.new W4 52 #[.int .i64 state, .int .u32 session, .int .u32 number, .int .u32 sent, .int .i64 since, .int .i64 latched, .bool request, .bool on, .slice A4 out.length c4]
        have hC5 := hC4.more hb5
        clear hC3 hC4 hb4 hown4 hsee hb5
        rcases her with ⟨rfl, hks⟩ | rfl
        · rw [hks] at hses
          subst hses
          have f1 : (V + 1 != 0) = true := by have : V + 1 ≠ 0 := by omega
                                              simpa using this
          have f2 : (V + 1 != last) = true := by have : V + 1 ≠ last := by omega
                                                 simpa using this
          have f3 : ¬ V + 1 ≤ last := by omega
          go_upto_region 16 with fail
          obtain ⟨e0, He0⟩ : ∃ e, Hid (e = W4.heap.size) := ⟨_, Lib.hid rfl⟩
          rw [← He0.out] at hE5 ⊢
          generalize W4.alloc (.cells _ 52) = W5 at *
          have huc := hE5.cell
          rcases Classical.em (i < n1) with g3 | g3
          case' inl =>
            obtain ⟨ad1, rfl, hbl1, hcell1, hmem1⟩ := (show IntsD W5 w.heap.size A1 n1 z1 from h1.below hC5.below).get g3
            have hcr1 := r1 _ hmem1
            generalize z1.getD i 0 = wk at hcell1 hcr1 hmem1
            rcases Classical.em (0 < wk) with g4 | g4
            case' inl =>
              go_wp2_with fail
              obtain ⟨k2, k3, V', q1, q2, q3, q4, q5, q6, q7, q8, q9, q10⟩ := hback (wk % 9 + 1) (by omega) (by omega)
            case' inr =>
              go_wp2_with fail
              obtain ⟨k2, k3, V', q1, q2, q3, q4, q5, q6, q7, q8, q9, q10⟩ := hback 0 (by omega) (by omega)
          case' inr =>
            go_wp2_with fail
            obtain ⟨k2, k3, V', q1, q2, q3, q4, q5, q6, q7, q8, q9, q10⟩ := hback 0 (by omega) (by omega)
          all_goals
            replace q10 : V' = V + 1 := q10 (by trivial)
            refine (q1 _ _ hC5.dev).mono ?_
            rintro e W6 ⟨v6, rfl, t6⟩
            have hC6 := hC5.to t6
            clear hback hE5 huc hC5 t6 q1
            go_wp2_with fail
            refine (q2 _ _ hC6.dev).mono ?_
            rintro e W7 ⟨rfl, t7⟩
            have hC7 := hC6.to t7
            clear hC6 t7 q2
            go_wp2_with fail
            refine (q3 _ _ hC7.dev).mono ?_
            rintro e W8 ⟨b1, b2, b3, b4, b5, b6, b7, b8, rfl, hb8⟩
            have hC8 := hC7.more hb8
            clear hC7 hb8 q3
            go_wp2_with fail
            go_roundg (100 - (i + 1))
            case measure => omega
            case rel => exact ⟨i + 1, V + 1, V', k3, _, by go_num, by omega, by omega, rfl, by omega, by omega, by omega, q4, q5, q6, q7, hC8⟩
        · clear hE5 hses
          by_cases g3 : i < n1
          · obtain ⟨ad1, rfl, hbl1, hcell1, hmem1⟩ := (show IntsD _ w.heap.size A1 n1 z1 from h1.below hC5.below).get g3
            have hcr1 := r1 _ hmem1
            generalize z1.getD i 0 = wk at hcell1 hcr1 hmem1
            by_cases g4 : 0 < wk
            · go_wp2_with fail
              obtain ⟨k2, k3, V', q1, q2, q3, q4, q5, q6, q7, q8, q9, q10⟩ := hback (wk % 9 + 1) (by omega) (by omega)
              clear q10
              refine (q1 _ _ hC5.dev).mono ?_
              rintro e W6 ⟨v6, rfl, t6⟩
              have hC6 := hC5.to t6
              clear hback hC5 t6 q1
              go_wp2_with fail
              refine (q2 _ _ hC6.dev).mono ?_
              rintro e W7 ⟨rfl, t7⟩
              have hC7 := hC6.to t7
              clear hC6 t7 q2
              go_wp2_with fail
              refine (q3 _ _ hC7.dev).mono ?_
              rintro e W8 ⟨b1, b2, b3, b4, b5, b6, b7, b8, rfl, hb8⟩
              have hC8 := hC7.more hb8
              clear hC7 hb8 q3
              go_wp2_with fail
              go_roundg (100 - (i + 1))
              case measure => omega
              case rel => exact ⟨i + 1, last, V', k3, _, by go_num, by omega, by omega, rfl, by omega, by omega, by omega, q4, q5, q6, q7, hC8⟩
            · go_wp2_with fail
              obtain ⟨k2, k3, V', q1, q2, q3, q4, q5, q6, q7, q8, q9, q10⟩ := hback 0 (by omega) (by omega)
              clear q10
              refine (q1 _ _ hC5.dev).mono ?_
              rintro e W6 ⟨v6, rfl, t6⟩
              have hC6 := hC5.to t6
              clear hback hC5 t6 q1
              go_wp2_with fail
              refine (q2 _ _ hC6.dev).mono ?_
              rintro e W7 ⟨rfl, t7⟩
              have hC7 := hC6.to t7
              clear hC6 t7 q2
              go_wp2_with fail
              refine (q3 _ _ hC7.dev).mono ?_
              rintro e W8 ⟨b1, b2, b3, b4, b5, b6, b7, b8, rfl, hb8⟩
              have hC8 := hC7.more hb8
              clear hC7 hb8 q3
              go_wp2_with fail
              go_roundg (100 - (i + 1))
              case measure => omega
              case rel => exact ⟨i + 1, last, V', k3, _, by go_num, by omega, by omega, rfl, by omega, by omega, by omega, q4, q5, q6, q7, hC8⟩
          · go_wp2_with fail
            obtain ⟨k2, k3, V', q1, q2, q3, q4, q5, q6, q7, q8, q9, q10⟩ := hback 0 (by omega) (by omega)
            clear q10
            refine (q1 _ _ hC5.dev).mono ?_
            rintro e W6 ⟨v6, rfl, t6⟩
            have hC6 := hC5.to t6
            clear hback hC5 t6 q1
            go_wp2_with fail
            refine (q2 _ _ hC6.dev).mono ?_
            rintro e W7 ⟨rfl, t7⟩
            have hC7 := hC6.to t7
            clear hC6 t7 q2
            go_wp2_with fail
            refine (q3 _ _ hC7.dev).mono ?_
            rintro e W8 ⟨b1, b2, b3, b4, b5, b6, b7, b8, rfl, hb8⟩
            have hC8 := hC7.more hb8
            clear hC7 hb8 q3
            go_wp2_with fail
            go_roundg (100 - (i + 1))
            case measure => omega
            case rel => exact ⟨i + 1, last, V', k3, _, by go_num, by omega, by omega, rfl, by omega, by omega, by omega, q4, q5, q6, q7, hC8⟩
    · go_wp2_with fail
      all_goals (go_ret; exact ⟨rfl, hC.below⟩)
end Go.Proofs.YtbkkfkbgcklkgaaGreat
