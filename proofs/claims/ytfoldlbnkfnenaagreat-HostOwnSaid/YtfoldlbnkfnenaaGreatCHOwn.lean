/- The walk of HostOwn. -/
import Derived.Test.YtfoldlbnkfnenaaGreatCHOwnK
import Derived.Test.YtfoldlbnkfnenaaGreatCHostQ
namespace Go.Proofs.YtfoldlbnkfnenaaGreat
open Go.RowKit
set_option maxHeartbeats 10000000
set_option maxRecDepth 100000

theorem Two.keepS {B a b : Nat} {w w' : World} {m : HostM} {T S : Nat → Prop} (h : Two B w a b m T) (hk : Keep S w w') (hS : ∀ x, T x → ¬ S x) : Two B w' a b m T := by
  obtain ⟨F1, F2, hP, hT⟩ := h.pair
  exact ⟨⟨F1, F2, ⟨hP.host.keepS hk (fun x hx => hS x (hT x (.inl hx))), hP.ref.keepS hk (fun x hx => hS x (hT x (.inr hx))), hP.dj⟩, hT⟩, h.good, h.live, fun x hx => by have := h.lt x hx; have := hk.size; omega⟩
theorem spare_take (l : List UInt8) : (spareTo l 9).take l.length = u8c l := by
  apply List.ext_getElem?
  intro k
  rcases Nat.lt_or_ge k l.length with hk | hk
  · rw [List.getElem?_take_of_lt hk, spareTo_get l 9 k (by omega)]
    unfold spareAt
    rw [if_pos (by omega)]
    simp [u8c, hk]
  · rw [List.getElem?_eq_none (by rw [List.length_take]; omega), List.getElem?_eq_none (by rw [u8c_length]; omega)]
theorem hostOwn_law (A1 A2 : Option Addr) (n1 c1 n2 c2 : Nat) (l1 l2 : List UInt8) (w : World) (hr1 : Reads w w.heap.size 1 A1 n1 (u8c l1)) (hr2 : Reads w w.heap.size 1 A2 n2 (u8c l2)) (hc1 : n1 ≤ c1) (hc2 : n2 ≤ c2) :
    Calls Tryz.prog 3 #[.slice A1 n1 c1, .slice A2 n2 c2] w fun e w' => e = .returned (.bool true) ∧ Below w.heap.size w w' := by
  have hl1 : l1.length = n1 := by have := hr1.1; simpa [u8c] using this
  have hl2 : l2.length = n2 := by have := hr2.1; simpa [u8c] using this
  by_cases hn : n1 = 2 ∧ n2 = 1
  case neg =>
    have hcase : ¬ n1 = 2 ∨ ¬ n2 = 1 := by omega
    go_enter Tryz.func3, Tryz.ntmps3
    go_wp2_with fail
    refine (lawAwake_any _).mono ?_
    rintro e w1 ⟨rfl, hb1⟩
    by_cases h2 : n1 = 2
    · subst h2
      have h3 : ¬ n2 = 1 := fun h => hn ⟨rfl, h⟩
      have g3 : ((n2 : Int) != 1) = true := by simpa using (show ¬ (n2 : Int) = 1 by omega)
      have g4 : ((n2 : Int) = 1) = False := by simp; omega
      clear hn hcase hl1 hl2
      go_wp2_with fail
      go_ret
      exact ⟨rfl, hb1⟩
    · have g3 : ((n1 : Int) != 2) = true := by simpa using (show ¬ (n1 : Int) = 2 by omega)
      have g4 : ((n1 : Int) = 2) = False := by simp; omega
      clear hn hcase hl1 hl2
      go_wp2_with fail
      go_ret
      exact ⟨rfl, hb1⟩
  case pos =>
  obtain ⟨rfl, rfl⟩ := hn
  have Hl1 := Lib.hid hl1
  have Hl2 := Lib.hid hl2
  clear hl1 hl2
  have hfld := end_state
  go_enter Tryz.func3, Tryz.ntmps3
  go_wp2_with fail
  refine (lawAwake_any _).mono ?_
  rintro e w1 ⟨rfl, hb1⟩
  go_wp2_with fail
  refine (lawSmall_any _).mono ?_
  rintro e w2 ⟨rfl, hb2⟩
  have hb2' := hb1.trans (hb2.mono hb1.size)
  unfold parVal smallM
  simp only
  go_wp2_with fail
  refine (hostNew_any smallM w2 small_lawful).mono ?_
  rintro e w3 ⟨a, F1, rfl, hI, hb3⟩
  have hz2 := hb2'.size
  have hb3' := hb2'.trans (hb3.mono hz2)
  go_wp2_with fail
  refine (lawSmall_any _).mono ?_
  rintro e w4 ⟨rfl, hb4⟩
  have hI4 := hI.below hb4
  have hb4' := hb3'.trans (hb4.mono hb3'.size)
  clear hI hb4 hb3 hb3' hb2 hb1
  unfold parVal smallM
  simp only
  go_wp2_with fail
  refine (rhNew_any smallM w4 small_ok small_lawful).mono ?_
  rintro e w5 ⟨b, F2, rfl, hR, hb5⟩
  have hT := two_new smallM small_ok small_lawful hI4 hR hb5
  have hb5' := hb4'.trans (hb5.mono hb4'.size)
  have hr15 := hr1.below hb5'
  clear hI4 hR hb5 hb4'
  go_wp2_with fail
  refine (spare_any A1 2 c1 w.heap.size l1 w5 hr15 hb5'.size (by omega)).mono ?_
  rintro e w6 ⟨rfl, hown6, hb6⟩
  have hT6 := hT.below hb6
  have hlt5 := hT.lt
  have hb6' := hb5'.trans (hb6.mono hb5'.size)
  have hin6 : w6.ownsRow w5.heap.size 5 1 (.slice (some ⟨w5.heap.size, 0, none⟩) 2 (2 + 9)) 2 (u8c l1) := by
    have h := own_prefix hown6 (n := 2) (by omega)
    have e : (spareTo l1 9).take 2 = u8c l1 := by
      have hl := Hl1.out
      apply List.ext_getElem?
      intro k
      rcases Nat.lt_or_ge k 2 with hk | hk
      · rw [List.getElem?_take_of_lt hk, spareTo_get l1 9 k (by omega)]
        unfold spareAt
        rw [if_pos (by omega)]
        have hkl : k < l1.length := by omega
        simp [u8c, hkl]
      · rw [List.getElem?_eq_none (by rw [List.length_take]; omega), List.getElem?_eq_none (by rw [u8c_length]; omega)]
    rw [e] at h
    exact h
  have hT0 : (2 : Int) ≤ 8 := by decide
  have hwr := two_hwrite hT6 2 l1 false (some ⟨w5.heap.size, 0, none⟩) (2 + 9) w6.heap.size (Reads.of_own hin6) (Nat.le_refl _) hT0
  have how := o_write l1 l2 Hl1.out
  have how2 : (HostM.new smallM).write l1 false = (oAt l1 l2 0, 0) := how
  have hcode : ((HostM.new smallM).write l1 false).2 = 0 := by rw [how2]
  have hmst : ((HostM.new smallM).write l1 false).1 = oAt l1 l2 0 := by rw [how2]
  have hg6 : ∀ x, (F1 x ∨ F2 x) → x < w5.heap.size := hlt5
  go_wp2_with fail
  refine hwr.mono ?_
  rintro e w7 ⟨rfl, hM7, hk7, hb7⟩
  rw [hcode]
  have hz56 : w5.heap.size < w6.heap.size := (hin6.lt _ rfl).2
  have hz67 := hk7.size
  have hown7 := ownsRow_keep hown6 hk7 (fun x hx h => by have h1 := hg6 x h; simp [Value.ownBlock] at hx; omega)
  have hin7 := ownsRow_keep hin6 hk7 (fun x hx h => by have h1 := hg6 x h; simp [Value.ownBlock] at hx; omega)
  have hb7' := hb6'.trans (hb7.mono hz2)
  have hr17 := hr1.below hb7'
  have hmw := mid_write hM7 hT6.good hT6.live 2 A1 c1 w.heap.size hr17 hb7'.size hT0
  clear hwr hT6 hown6 hin6 hb6 hb6' hk7 hb7 hT hr15 hM7
  go_wp2_with fail
  refine hmw.mono ?_
  rintro e w8 ⟨rfl, hT8, hk8, hb8⟩
  rw [hcode]
  rw [hmst] at hT8
  have hown8 := ownsRow_keep hown7 hk8 (fun x hx h => by have h1 := hg6 x h; simp [Value.ownBlock] at hx; omega)
  have hin8 := ownsRow_keep hin7 hk8 (fun x hx h => by have h1 := hg6 x h; simp [Value.ownBlock] at hx; omega)
  have hb8' := hb7'.trans (hb8.mono hz2)
  have hr18 := hr1.below hb8'
  have hkp := kept_any (some ⟨w5.heap.size, 0, none⟩) A1 2 (2 + 9) c1 w8.heap.size l1 w8 (Reads.of_own hown8) (hr18.more hb8'.size) (Nat.le_refl _) (by omega)
  clear hmw hown7 hin7 hk8 hb8 hb7' hr17 hown8 hr18
  go_wp2_with fail
  refine hkp.mono ?_
  rintro e w9 ⟨rfl, d9, rfl⟩
  have hbD := belowN (Below.refl w8.heap.size w8) d9
  have hT9 := hT8.below hbD
  have hin9 := own_below hin8 hbD
  have hb9 := hb8'.trans (hbD.mono hb8'.size)
  clear hkp hT8 hin8 hb8' hbD
  generalize w8.drewN d9 = W9 at *
  have hbL := (Below.refl W9.heap.size W9).alloc (Nat.le_refl _) (.cells #[.slice (some ⟨w5.heap.size, 0, none⟩) 2 (2 + 9)] 22)
  have hLrow := own_full W9 #[.slice (some ⟨w5.heap.size, 0, none⟩) 2 (2 + 9)] 22 w.heap.size hb9.size (by unfold maxLen; simp)
  have hT10 := hT9.below hbL
  have hin10 := own_below hin9 hbL
  have hb10 := hb9.trans (hbL.mono hb9.size)
  have hHeld : Held w.heap.size (W9.alloc (.cells #[.slice (some ⟨w5.heap.size, 0, none⟩) 2 (2 + 9)] 22)) [.slice (some ⟨w5.heap.size, 0, none⟩) 2 (2 + 9)] :=
    ⟨fun v hv => by rw [List.mem_singleton.1 hv]; exact ⟨2, _, by omega, own_base hin10 hb5'.size⟩, List.pairwise_singleton _ _⟩
  have hltT9 := hT9.lt
  have hgT : ¬ grow (grow (fun x => F1 x ∨ F2 x) w6 w7) w7 w8 w5.heap.size := by
    rintro ((h | h) | h)
    · have := hg6 _ h; omega
    · omega
    · omega
  have hLT : ¬ grow (grow (fun x => F1 x ∨ F2 x) w6 w7) w7 w8 W9.heap.size := fun h => by have := hltT9 _ h; omega
  clear hT9 hin9 hin10 hb9 hbL how how2 hcode hmst
  go_wp2_with fail
  obtain ⟨L0, HL0⟩ : ∃ x, Hid (x = W9.heap.size) := ⟨_, Lib.hid rfl⟩
  rw [← HL0.out] at hLrow hLT ⊢
  generalize W9.alloc (.cells _ 22) = W10 at *
  go_loopg [11, 12] 4 (fun q v11 v12 wr => ∃ (i : Nat) (T : Nat → Prop) (VS : List Value) (A : Option Addr) (c : Nat), v11 = .slice A (2 * i + 1) c ∧ v12 = .int .i64 ((i : Int) + 1) ∧ i + q = 4 ∧ wr.ownsRow w.heap.size 22 1 (.slice A (2 * i + 1) c) (2 * i + 1) VS ∧ Held w.heap.size wr VS ∧ Two w2.heap.size wr a b (oAt l1 l2 i) T ∧ (∀ v ∈ VS, ∀ x, v.ownBlock = some x → ¬ T x) ∧ (∀ x, (Value.slice A (2 * i + 1) c).ownBlock = some x → ¬ T x) ∧ Below w.heap.size w wr)
  case atStart => exact ⟨0, _, _, _, _, rfl, rfl, by omega, hLrow, hHeld, hT10, fun v hv x hx => by rw [List.mem_singleton.1 hv] at hx; injection hx with hx; subst hx; exact hgT, fun x hx => by injection hx with hx; subst hx; exact hLT, hb10⟩
  case round =>
    clear hLrow hHeld hT10 hgT hLT hb10 hltT9
    obtain ⟨i, T, VS, AL, cL, rfl, rfl, hq, hL, hH, hT, hVT, hLT, hB⟩ := hrel
    by_cases hlt : i < 4
    · have Hq := Lib.hid hq
      clear hq
      have hle : ((i : Int) + 1 ≤ 4) := by omega
      have hqt := o_quiet l1 l2 i hlt
      have hln : (oAt l1 l2 i).log.length < 1073741600 := by rw [oAt_log]; simp
      have hsend := two_sendQ hT hln hqt.1 (.inr hqt.2.1) hqt.2.2
      have hos := o_send l1 l2 i hlt
      have hsm : (oAt l1 l2 i).send.2.1.length ≤ 1000 := by
        rw [(send_whole hT.good hT.live hqt.1).1]
        exact encode_small _
      have hfr := o_frame l1 l2 i hlt
      have hrc := o_receive l1 l2 Hl2.out i hlt
      generalize hfb : (oAt l1 l2 i).send.2.1 = fs at *
      generalize hfe : (oAt l1 l2 i).send.2.2 = es at *
      have hTlt := hT.lt
      clear hqt
      go_wp2_with fail
      refine hsend.mono ?_
      rintro e wa ⟨xa, rfl, howna, hha, hka, hba⟩
      obtain ⟨Aa, ca, rfl⟩ := own_slice howna
      have hLa := ownsRow_keep hL hka hLT
      have hHa := hH.keep hka hVT
      have hVlt := hH.lt
      have hLlt := fun x hx => (hL.lt x hx).2
      have hga := howna.lt
      have hza := hka.size
      have hBr := hB.size
      have hBa := hB.trans (hba.mono hz2)
      have hrs := half_send hha hln
      rw [hos.1] at hrs
      clear hsend hha hka hba hB hL hH hT hln
      go_wp2_with fail
      refine hrs.mono ?_
      rintro e wb ⟨xb, rfl, hownb, hTb, hkb, hbb⟩
      obtain ⟨Ab0, cb0, rfl⟩ := own_slice hownb
      have hTL : ∀ x, (Value.slice AL (2 * i + 1) cL).ownBlock = some x → ¬ grow T wa wb x := fun x hx h => h.elim (hLT x hx) (fun h => by have := hLlt x hx; omega)
      have hTV : ∀ v ∈ VS, ∀ x, v.ownBlock = some x → ¬ grow T wa wb x := fun v hv x hx h => h.elim (hVT v hv x hx) (fun h => by have := hVlt v hv x hx; omega)
      have hTs : ∀ x, (Value.slice Aa fs.length ca).ownBlock = some x → ¬ grow T wa wb x := fun x hx h => h.elim (fun h => by have h1 := hTlt x h; have h2 := (hga x hx).1; omega) (fun h => by have := (hga x hx).2; omega)
      have hLb := ownsRow_keep hLa hkb hLT
      have hHb := hHa.keep hkb hVT
      have hsb := ownsRow_keep howna hkb (fun x hx h => by have h1 := hTlt x h; have h2 := (hga x hx).1; omega)
      have hzb := hkb.size
      have hBb := hBa.trans (hbb.mono hz2)
      have hfrm := two_frame hTb ⟨(i : Int) + 1, 1, 0, false, l2, 0, 0⟩ A2 c2 w.heap.size ⟨by simp, by simp, by simp⟩ (by rw [Hl2.out]; exact hr2.below hBb) hBb.size (by rw [Hl2.out]; exact hc2) (by rw [Hl2.out]; omega)
      rw [hfr] at hfrm
      unfold opVal at hfrm
      simp only [Option.isSome_some] at hfrm
      rw [Hl2.out] at hfrm
      have hes := encode_small (oUnit l2 i)
      generalize (oUnit l2 i).encode = fb at *
      generalize grow T wa wb = T2 at *
      clear hrs howna hownb hkb hbb hBa hLa hHa hfr
      go_wp2_with fail
      refine hfrm.mono ?_
      rintro e wc ⟨vc, rfl, _, hvc, hbc⟩
      have hownc := hvc fb rfl
      obtain ⟨Ac, cc, rfl⟩ := own_slice hownc
      have hTc := hTb.below hbc
      have hLc := own_below hLb hbc
      have hHc := hHb.below hbc
      have hsc := own_below hsb hbc
      have hBc := hBb.trans (hbc.mono hBb.size)
      have hgc := hownc.lt
      have hTblt := hTb.lt
      have hzc := hbc.size
      clear hfrm hTb hLb hHb hsb hBb hbc hvc
      go_wp2_with fail
      refine (spare_any Ac fb.length cc wc.heap.size fb wc (Reads.of_own hownc) (Nat.le_refl _) (by omega)).mono ?_
      rintro e wd ⟨rfl, hownd, hbd⟩
      have hTd := hTc.below hbd
      have hLd := own_below hLc hbd
      have hHd := hHc.below hbd
      have hsd := own_below hsc hbd
      have hfd := own_below hownc hbd
      have hBd := hBc.trans (hbd.mono hBc.size)
      have hpd := own_prefix hownd (n := fb.length) (by omega)
      rw [spare_take] at hpd
      have hgd : wc.heap.size < wd.heap.size := (hownd.lt _ rfl).2
      have hTd2 : ¬ T2 wc.heap.size := fun h => by have := hTblt _ h; omega
      have hTfr : ∀ x, (Value.slice Ac fb.length cc).ownBlock = some x → ¬ T2 x := fun x hx h => by have h1 := hTblt x h; have h2 := (hgc x hx).1; omega
      have hln2 : (oSent l1 l2 i).log.length < 1073741600 := by rw [oSent_log l1 l2 i hlt]; simp
      have hhr := two_hreceive hTd hln2 fb.length fb (some ⟨wc.heap.size, 0, none⟩) (fb.length + 9) wd.heap.size (Reads.of_own hpd) (Nat.le_refl _) (by omega) (by omega)
      have hrc0 : ((oSent l1 l2 i).receive fb).2 = 0 := by rw [hrc]
      have hrc1 : ((oSent l1 l2 i).receive fb).1 = oAt l1 l2 (i + 1) := by rw [hrc]
      have hgood := hTd.good
      have hlive := hTd.live
      clear hTc hLc hHc hsc hownc hbd hBc hrc hTd
      go_wp2_with fail
      refine hhr.mono ?_
      rintro e we ⟨rfl, hMe, hke, hbe⟩
      rw [hrc0]
      have hLe := ownsRow_keep hLd hke hTL
      have hHe := hHd.keep hke hTV
      have hse := ownsRow_keep hsd hke hTs
      have hfe := ownsRow_keep hfd hke hTfr
      have hre := ownsRow_keep hownd hke (fun x hx => by injection hx with hx; subst hx; exact hTd2)
      have hBe := hBd.trans (hbe.mono hz2)
      have hze := hke.size
      have hmr := mid_receive hMe hgood hlive hln2 fb.length Ac cc we.heap.size (Reads.of_own hfe) (Nat.le_refl _) (own_cap hfe)
      clear hhr hLd hHd hsd hfd hownd hpd hke hbe hBd hMe
      go_wp2_with fail
      refine hmr.mono ?_
      rintro e wf ⟨rfl, hTf, hkf, hbf⟩
      rw [hrc0]
      rw [hrc1] at hTf
      have hLf := ownsRow_keep hLe hkf hTL
      have hHf := hHe.keep hkf hTV
      have hsf := ownsRow_keep hse hkf hTs
      have hff := ownsRow_keep hfe hkf hTfr
      have hrf := ownsRow_keep hre hkf (fun x hx => by injection hx with hx; subst hx; exact hTd2)
      have hBf := hBe.trans (hbf.mono hz2)
      have hzf := hkf.size
      have hkp := kept_any (some ⟨wc.heap.size, 0, none⟩) Ac fb.length (fb.length + 9) cc wf.heap.size fb wf (Reads.of_own hrf) (Reads.of_own hff) (Nat.le_refl _) (by omega)
      clear hmr hLe hHe hse hfe hre hBe hkf hbf
      go_wp2_with fail
      refine hkp.mono ?_
      rintro e wg0 ⟨rfl, dg, rfl⟩
      have hbD := belowN (Below.refl wf.heap.size wf) dg
      have hzg : (wf.drewN dg).heap.size = wf.heap.size := rfl
      have hTg := hTf.below hbD
      have hLg := own_below hLf hbD
      have hHg := hHf.below hbD
      have hsg := own_below hsf hbD
      have hrg := own_below hrf hbD
      have hBg := hBf.trans (hbD.mono hBf.size)
      have hT4L : ∀ x, (Value.slice AL (2 * i + 1) cL).ownBlock = some x → ¬ grow (grow T2 wd we) we wf x := fun x hx h => by
        have h1 := hLlt x hx
        rcases h with (h | h) | h
        · exact hTL x hx h
        · omega
        · omega
      have hT4V : ∀ v ∈ VS, ∀ x, v.ownBlock = some x → ¬ grow (grow T2 wd we) we wf x := fun v hv x hx h => by
        have h1 := hVlt v hv x hx
        rcases h with (h | h) | h
        · exact hTV v hv x hx h
        · omega
        · omega
      have hT4s : ∀ x, (Value.slice Aa fs.length ca).ownBlock = some x → ¬ grow (grow T2 wd we) we wf x := fun x hx h => by
        have h1 := (hga x hx).2
        rcases h with (h | h) | h
        · exact hTs x hx h
        · omega
        · omega
      have hT4f : ¬ grow (grow T2 wd we) we wf wc.heap.size := fun h => by
        rcases h with (h | h) | h
        · exact hTd2 h
        · omega
        · omega
      generalize grow (grow T2 wd we) we wf = T4 at *
      generalize wf.drewN dg = wg at *
      have hpg := own_prefix hrg (n := fb.length) (by omega)
      have hH1 := hHg.add (n := fs.length) (by omega) hsg hBr (fun u hu x hx hx2 => by have h1 := hVlt u hu x hx; have h2 := (hga x hx2).1; omega)
      have hH2 := hH1.add (n := fb.length) (by omega) hpg (by omega) (fun u hu x hx hx2 => by
        have hx3 : some wc.heap.size = some x := hx2
        injection hx3 with hx3
        rcases List.mem_append.1 hu with h1 | h1
        · have := hVlt u h1 x hx; omega
        · rw [List.mem_singleton.1 h1] at hx
          have := (hga x hx).2
          omega)
      have Hzg := Lib.hid hzg
      obtain ⟨i0, hi0, hz0, hz1, hz2'⟩ := info_parts list_info
      have hBA0 := hBg.size
      clear hzg
      have hLA := hLg.alloc (.cells #[.slice Aa fs.length ca, .slice (some ⟨wc.heap.size, 0, none⟩) fb.length (fb.length + 9)] 22)
      have hbA := (Below.refl wg.heap.size wg).alloc (Nat.le_refl _) (.cells #[.slice Aa fs.length ca, .slice (some ⟨wc.heap.size, 0, none⟩) fb.length (fb.length + 9)] 22)
      have hTA := hTg.below hbA
      have hHA := hH2.below hbA
      have hBA := hBg.trans (hbA.mono hBg.size)
      have hrdA := Reads.of_blk (Blk.new wg 22 #[.slice Aa fs.length ca, .slice (some ⟨wc.heap.size, 0, none⟩) fb.length (fb.length + 9)]) (B := wg.heap.size + 1) (size := 1) (n := 2) (by omega) rfl
      clear hkp hLg hHg hsg hrg hpg hH1 hH2 hTf hLf hHf hsf hff hrf hTg hBf hBg hbD
      go_wp2_with (at_builtin; refine wpList_append_any _ rfl (.tmp 109) (.tmp 112) _ rfl w.heap.size 22 i0 _ 1 24 Tryz.underlying40 hi0 hz0 hz1 hz2' rfl (by omega) (.slice AL (2 * i + 1) cL) (2 * i + 1) VS rfl hLA (wg.heap.size + 1) (some ⟨wg.heap.size, 0, none⟩) 2 2 [.slice Aa fs.length ca, .slice (some ⟨wc.heap.size, 0, none⟩) fb.length (fb.length + 9)] rfl hrdA (by simp [Value.oneCell']) (by unfold maxLen; omega) (by omega) (by simp; omega) ?_; intro v9 wz hownz hgz hatz; obtain ⟨A9, c9, rfl⟩ := own_slice hownz)
      have hkz := Keep.grown (S := fun x => (Value.slice AL (2 * i + 1) cL).ownBlock = some x) (Keep.refl _ _) hgz (fun k hk _ => hk)
      have hTz := hTA.keepS hkz (fun x hx hS => hT4L x hS hx)
      have hHz := hHA.keep hkz (fun v hv x hx hS => by
        obtain ⟨cs, hbk⟩ := own_obj hLA hS
        obtain ⟨nn, xs, _, hrow⟩ := hHA.row v hv
        exact own_ne hrow hbk (by decide) hx)
      have hBz := hBA.grown hgz hBA.size (fun k hk => (hLA.lt k hk).1)
      have hT4lt := hTA.lt
      have hVz : ∀ v ∈ VS ++ [.slice Aa fs.length ca] ++ [.slice (some ⟨wc.heap.size, 0, none⟩) fb.length (fb.length + 9)], ∀ x, v.ownBlock = some x → ¬ T4 x := by
        intro v hv x hx
        rcases List.mem_append.1 hv with h1 | h1
        · rcases List.mem_append.1 h1 with h2 | h2
          · exact hT4V v h2 x hx
          · rw [List.mem_singleton.1 h2] at hx; exact hT4s x hx
        · rw [List.mem_singleton.1 h1] at hx
          injection hx with hx
          subst hx
          exact hT4f
      have hLz : ∀ x, (Value.slice A9 (2 * i + 1 + 2) c9).ownBlock = some x → ¬ T4 x := by
        intro x hx
        rcases hatz with h1 | h1
        · exact hT4L x (h1 ▸ hx)
        · rw [h1] at hx
          injection hx with hx
          subst hx
          exact fun h => by have := hT4lt _ h; omega
      have e21 : 2 * i + 1 + 2 = 2 * (i + 1) + 1 := by omega
      have eVS : VS ++ [Value.slice Aa fs.length ca, .slice (some ⟨wc.heap.size, 0, none⟩) fb.length (fb.length + 9)] = VS ++ [.slice Aa fs.length ca] ++ [.slice (some ⟨wc.heap.size, 0, none⟩) fb.length (fb.length + 9)] := by simp
      rw [eVS] at hownz
      clear hLA hbA hTA hHA hBA hrdA hkz hatz hgz eVS
      go_wp2_with fail
      rw [e21] at hownz hLz ⊢
      go_roundg (4 - (i + 1))
      case measure => have := Hq.out; omega
      case rel => have := Hq.out; exact ⟨i + 1, T4, _, A9, c9, rfl, by go_num, by omega, hownz, hHz, hTz, hVz, hLz, hBz⟩
    · obtain rfl : i = 4 := by omega
      have hle : ¬ ((4 : Nat) : Int) + 1 ≤ 4 := by omega
      obtain ⟨W, rfl⟩ : ∃ X : World, X = wr := ⟨_, rfl⟩
      have hseeF := fun {X : World} {T' : Nat → Prop} (h : Two w2.heap.size X a b (oAt l1 l2 4) T') => two_see h
      have e1 : true = (oAt l1 l2 4).see.on := rfl
      have e2 : l2 = (oAt l1 l2 4).see.out := rfl
      generalize (oAt l1 l2 4).see = em at *
      obtain ⟨st, ses, num, snt, snc, lat, req, on, out⟩ := em
      simp only at e1 e2
      subst e1 e2
      unfold endVal at hseeF
      simp only at hseeF
      rw [Hl2.out] at hseeF
      have hseeW := hseeF hT
      clear hq hlt
      go_wp2_with fail
      refine hseeW.mono ?_
      rintro e wa ⟨xa, rfl, howna, hba⟩
      obtain ⟨Aa, ca, rfl⟩ := own_slice howna
      have hLlt := fun x hx => (hL.lt x hx).2
      have hVlt := hH.lt
      have hza := hba.size
      have hBr := hB.size
      have hTa := hT.below hba
      have hLa := own_below hL hba
      have hHa := hH.below hba
      have hBa := hB.trans (hba.mono hBr)
      have hTlt := hT.lt
      have hseeA := hseeF hTa
      clear hseeW hba hT hL hH hB
      go_wp2_with fail
      refine hseeA.mono ?_
      rintro e wb ⟨xb, rfl, hownb, hbb⟩
      obtain ⟨Ab, cb, rfl⟩ := own_slice hownb
      have hzb := hbb.size
      have hTb := hTa.below hbb
      have hLb := own_below hLa hbb
      have hHb := hHa.below hbb
      have hBb := hBa.trans (hbb.mono hBa.size)
      have hsa := own_below howna hbb
      have hga := fun x hx => (howna.lt x hx)
      have hgb := fun x hx => (hownb.lt x hx)
      have hH1 := hHb.add (n := 1) (by omega) hsa (by omega) (fun u hu x hx hx2 => by have h1 := hVlt u hu x hx; have h2 := (hga x hx2).1; omega)
      have hH2 := hH1.add (n := 1) (by omega) hownb (by omega) (fun u hu x hx hx2 => by
        have h2 := (hgb x hx2).1
        rcases List.mem_append.1 hu with h1 | h1
        · have := hVlt u h1 x hx; omega
        · rw [List.mem_singleton.1 h1] at hx
          have := (hga x hx).2
          omega)
      have hVb : ∀ v ∈ VS ++ [Value.slice Aa 1 ca] ++ [Value.slice Ab 1 cb], ∀ x, v.ownBlock = some x → ¬ T x := by
        intro v hv x hx h
        have h3 := hTlt x h
        rcases List.mem_append.1 hv with h1 | h1
        · rcases List.mem_append.1 h1 with h2 | h2
          · exact hVT v h2 x hx h
          · rw [List.mem_singleton.1 h2] at hx; have := (hga x hx).1; omega
        · rw [List.mem_singleton.1 h1] at hx; have := (hgb x hx).1; omega
      clear hseeA hTa hLa hHa hBa howna hbb hHb hH1 hsa hownb
      have hbE := ((Below.refl wb.heap.size wb).alloc (Nat.le_refl _) (.cells #[.int .i64 st, .int .u32 ses, .int .u32 num, .int .u32 snt, .int .i64 snc, .int .i64 lat, .bool req, .bool true, .slice Aa 1 ca] 53)).alloc (by simp) (.cells #[.int .i64 st, .int .u32 ses, .int .u32 num, .int .u32 snt, .int .i64 snc, .int .i64 lat, .bool req, .bool true, .slice Ab 1 cb] 53)
      have hE1 := (Blk.new wb 53 #[.int .i64 st, .int .u32 ses, .int .u32 num, .int .u32 snt, .int .i64 snc, .int .i64 lat, .bool req, .bool true, .slice Aa 1 ca]).alloc (.cells #[.int .i64 st, .int .u32 ses, .int .u32 num, .int .u32 snt, .int .i64 snc, .int .i64 lat, .bool req, .bool true, .slice Ab 1 cb] 53)
      have hE2 := Blk.new (wb.alloc (.cells #[.int .i64 st, .int .u32 ses, .int .u32 num, .int .u32 snt, .int .i64 snc, .int .i64 lat, .bool req, .bool true, .slice Aa 1 ca] 53)) 53 #[.int .i64 st, .int .u32 ses, .int .u32 num, .int .u32 snt, .int .i64 snc, .int .i64 lat, .bool req, .bool true, .slice Ab 1 cb]
      rw [show (wb.alloc (.cells #[.int .i64 st, .int .u32 ses, .int .u32 num, .int .u32 snt, .int .i64 snc, .int .i64 lat, .bool req, .bool true, .slice Aa 1 ca] 53)).heap.size = wb.heap.size + 1 by simp] at hE2
      have hTE := hTb.below hbE
      have hLE := own_below hLb hbE
      have hHE := hH2.below hbE
      have hBE := hBb.trans (hbE.mono hBb.size)
      have hVe : ∀ x, (Value.slice AL 9 cL).ownBlock = some x → ¬ T x := hLT
      clear hTb hLb hH2 hBb hbE
      go_upto_region 22 with fail
      obtain ⟨g1, Hg1⟩ : ∃ x, Hid (x = wb.heap.size) := ⟨_, Lib.hid rfl⟩
      rw [← Hg1.out] at hE1 hE2 ⊢
      generalize (wb.alloc _).alloc _ = wE at *
      obtain ⟨i0, hi0, hz0, hz1, hz2'⟩ := info_parts list_info
      have hLA := hLE.alloc (.cells #[.slice Aa 1 ca, .slice Ab 1 cb] 22)
      have hbA := (Below.refl wE.heap.size wE).alloc (Nat.le_refl _) (.cells #[.slice Aa 1 ca, .slice Ab 1 cb] 22)
      have hTA := hTE.below hbA
      have hHA := hHE.below hbA
      have hBA := hBE.trans (hbA.mono hBE.size)
      have hrdA := Reads.of_blk (Blk.new wE 22 #[.slice Aa 1 ca, .slice Ab 1 cb]) (B := wE.heap.size + 1) (size := 1) (n := 2) (by omega) rfl
      have hc1 := hE1.cell
      have hc2' := hE2.cell
      have hBEs := hBE.size
      clear hLE hTE hHE hBE hbA
      go_wp2_with (at_builtin; refine wpList_append_any _ rfl (.tmp 118) (.tmp 123) _ rfl w.heap.size 22 i0 _ 1 24 Tryz.underlying40 hi0 hz0 hz1 hz2' rfl (by omega) (.slice AL 9 cL) 9 VS rfl hLA (wE.heap.size + 1) (some ⟨wE.heap.size, 0, none⟩) 2 2 [.slice Aa 1 ca, .slice Ab 1 cb] rfl hrdA (by simp [Value.oneCell']) (by unfold maxLen; omega) (by omega) (by simp; omega) ?_; intro v9 wz hownz hgz hatz; obtain ⟨A9, c9, rfl⟩ := own_slice hownz)
      have hkz := Keep.grown (S := fun x => (Value.slice AL 9 cL).ownBlock = some x) (Keep.refl _ _) hgz (fun k hk _ => hk)
      have hTz := hTA.keepS hkz (fun x hx hS => hVe x hS hx)
      have hHz := hHA.keep hkz (fun v hv x hx hS => by
        obtain ⟨cs, hbk⟩ := own_obj hLA hS
        obtain ⟨nn, xs, _, hrow⟩ := hHA.row v hv
        exact own_ne hrow hbk (by decide) hx)
      have hBz := hBA.grown hgz hBA.size (fun k hk => (hLA.lt k hk).1)
      have eVS : VS ++ [Value.slice Aa 1 ca, .slice Ab 1 cb] = VS ++ [.slice Aa 1 ca] ++ [.slice Ab 1 cb] := by simp
      rw [eVS] at hownz
      obtain ⟨L, rfl⟩ := own_some hownz (by omega)
      obtain ⟨V, nV, X, hLists, hnV, hVm⟩ := hHz.lists hownz
      have hap := apart_any w.heap.size L 11 c9 V nV X wz hLists (hownz.lt L rfl).2 (by omega) hnV (own_cap hownz) hBz.size
      clear hLA hTA hHA hBA hrdA hkz hatz hgz eVS hc1 hc2'
      go_wp2_with fail
      refine hap.mono ?_
      rintro e wq ⟨rfl, hkq⟩
      have hTq := hTz.keepS hkq (fun x hx hS => by
        obtain ⟨j, hj, hxj⟩ := hS
        exact hVb _ (hVm j hj) x hxj hx)
      have hBq := hBz.trans (hkq.below hBz.size (fun x hS => by
        obtain ⟨j, hj, hxj⟩ := hS
        exact ((hLists.row j hj).lt x hxj).1))
      clear hap hTz hHz hBz hownz hLists hkq
      have hsq := hseeF hTq
      go_wp2_with fail
      refine hsq.mono ?_
      rintro e wr2 ⟨xr, rfl, hownr, hbr⟩
      obtain ⟨Ar, cr, rfl⟩ := own_slice hownr
      have hbN := (Below.refl wr2.heap.size wr2).alloc (Nat.le_refl _) (.cells #[.int .i64 st, .int .u32 ses, .int .u32 num, .int .u32 snt, .int .i64 snc, .int .i64 lat, .bool req, .bool true, .slice Ar 1 cr] 53)
      have hN := Blk.new wr2 53 #[.int .i64 st, .int .u32 ses, .int .u32 num, .int .u32 snt, .int .i64 snc, .int .i64 lat, .bool req, .bool true, .slice Ar 1 cr]
      have hTr := (hTq.below hbr).below hbN
      have hqlt := hTq.lt
      have hgr := hownr.lt
      have hzr := hbr.size
      have hownN := own_below hownr hbN
      have hBr2 := (hBq.trans (hbr.mono hBq.size)).trans (hbN.mono (by have := hBq.size; omega))
      have hTN : ¬ T wr2.heap.size := fun h => by have := hqlt _ h; omega
      clear hsq hTq hBq hbr hownr hbN hseeF
      go_upto_region 26 with fail
      obtain ⟨gN, HgN⟩ : ∃ x, Hid (x = wr2.heap.size) := ⟨_, Lib.hid rfl⟩
      rw [← HgN.out] at hN hTN ⊢
      generalize wr2.alloc (.cells #[.int .i64 st, .int .u32 ses, .int .u32 num, .int .u32 snt, .int .i64 snc, .int .i64 lat, .bool req, .bool true, .slice Ar 1 cr] 53) = wN at *
      have hln : (oAt l1 l2 4).log.length < 1073741600 := by rw [oAt_log]; simp
      have hsend := two_send hTr hln
      have hTrl := hTr.lt
      go_wp2_with fail
      refine hsend.mono ?_
      rintro e wx ⟨xx, rfl, hownx, hhx, hkx, hbx⟩
      obtain ⟨Ax, cx, rfl⟩ := own_slice hownx
      have hNx := hN.keep hkx hTN
      have hownNx := ownsRow_keep hownN hkx (fun x hx h => by have h1 := hqlt _ h; have h2 := (hgr x hx).1; omega)
      have hBx := hBr2.trans (hbx.mono hz2)
      have hrs := half_send hhx hln
      clear hsend hN hownN hBr2 hkx hbx hhx
      go_wp2_with fail
      refine hrs.mono ?_
      rintro e wy ⟨xy, rfl, howny, hTy, hky, hby⟩
      obtain ⟨Ay, cy, rfl⟩ := own_slice howny
      have hNy := hNx.keep hky hTN
      have hownNy := ownsRow_keep hownNx hky (fun x hx h => by have h1 := hqlt _ h; have h2 := (hgr x hx).1; omega)
      have hownxy := ownsRow_keep hownx hky (fun x hx h => by have h1 := hTrl _ h; have h2 := (hownx.lt x hx).1; omega)
      have hBy := hBx.trans (hby.mono hz2)
      have hr2y := hr2.below hBy
      have hcv1 := conv_reads (c := cr) (Reads.of_own hownNy)
      have hcv2 := conv_reads (c := c2) hr2y
      have hcv3 := conv_reads (c := cx) (Reads.of_own hownxy)
      have hcv4 := conv_reads (c := cy) (Reads.of_own howny)
      have hcN := hNy.cell
      clear hrs hky hby hTy hownNy hownxy howny hNx hownNx hownx hNy hr2y
      generalize (oAt l1 l2 4).send.2.1 = fx at *
      generalize (oAt l1 l2 4).send.2.2 = ex at *
      go_wp2_with fail
      go_ret
      exact ⟨rfl, hBy⟩
end Go.Proofs.YtfoldlbnkfnenaaGreat
