/- The base of the laws, part 20: contracts and plain lemmas, no statement. -/
import Derived.Test.YtlldgfejcjnpkaaGreatBase2
import Derived.Test.YtlldgfejcjnpkaaGreatBase8
import Derived.Test.YtlldgfejcjnpkaaGreatBase10
import Derived.Test.YtlldgfejcjnpkaaGreatBase19
set_option linter.unusedVariables false
/- The device's law's frames: frame, Frame (parapetlaw13). -/
namespace Go.Proofs.YtlldgfejcjnpkaaGreat
open Go.RowKit
set_option maxHeartbeats 10000000
set_option maxRecDepth 100000

theorem l13frame_any (u : UnitM) (A : Option Addr) (c B : Nat) (w : World) (ho : u.Ok) (hr : Reads w B 1 A u.data.length (u8c u.data)) (hB : B ≤ w.heap.size) :
    Calls Tryz.prog 44 #[unitVal u (.slice A u.data.length c)] w fun e w' => ∃ v, e = .returned v ∧ w'.ownsRow w.heap.size 5 1 v u.encode.length (u8c u.encode) ∧ Below w.heap.size w w' := by
  have hbW := (Below.refl w.heap.size w).alloc (Nat.le_refl _) (.cells #[.int .i64 u.kind, .int .u32 u.code, .int .u32 u.session, .int .u32 u.number, .int .i64 u.flags, .slice A u.data.length c] 64)
  have hz : (w.alloc (.cells #[.int .i64 u.kind, .int .u32 u.code, .int .u32 u.session, .int .u32 u.number, .int .i64 u.flags, .slice A u.data.length c] 64)).heap.size = w.heap.size + 1 := by simp
  have henc := r4encode_any u A c B (w.alloc (.cells #[.int .i64 u.kind, .int .u32 u.code, .int .u32 u.session, .int .u32 u.number, .int .i64 u.flags, .slice A u.data.length c] 64)) ho (hr.alloc hB _) (by omega)
  unfold unitVal at *
  generalize u.encode = fr at *
  generalize u.lawful = law at *
  clear hr
  go_enter Tryz.func44, Tryz.ntmps44
  go_wp2_with fail
  refine henc.mono ?_
  rintro e w1 ⟨v, rfl, hown, hb1⟩
  obtain ⟨Av, cv, rfl⟩ := own_slice hown
  go_wp2_with fail
  go_ret
  exact ⟨_, rfl, own_base hown (by omega), hbW.trans (hb1.mono (by omega))⟩
theorem signOfD_length (p : ParM) (odd : Bool) : (signOfD p odd).length = 4 := by
  unfold signOfD
  split
  · rw [List.length_set]; exact sign_length p
  · exact sign_length p
/-- Frame's cases, one after the other. -/
theorem frameD_eq (m : DevM) (kind on_ flags : Int) (odd : Bool) (data : List UInt8) (at_ word : Int) : frameD m ⟨kind, on_, flags, odd, data, at_, word⟩ =
    if kind = 6 then some data else if kind = 1 then some (UnitM.mk 1 m.p.code 0 0 0 (signOfD m.p odd)).encode
    else if kind = 2 then some (UnitM.mk 2 m.p.code (if odd ∧ on_.tmod 2 = 0 then m.session else (if odd then addU m.session 1 else m.session)) 0 0 (signOfD m.p odd)).encode
    else if kind = 3 then some (UnitM.mk 3 m.p.code (if odd then addU m.session 1 else m.session) 0 0 []).encode
    else if kind = 4 then some (UnitM.mk 4 m.p.code (if odd then addU m.session 1 else m.session) (addU m.number on_) flags data).encode
    else if kind = 5 then some (UnitM.mk 5 m.p.code (if odd then addU m.session 1 else m.session) m.p.count 0 []).encode
    else if kind = 7 then some ((burstM (UnitM.mk 4 m.p.code (if odd then addU m.session 1 else m.session) (addU m.number on_) flags data).encode at_ word).getD (UnitM.mk 4 m.p.code (if odd then addU m.session 1 else m.session) (addU m.number on_) flags data).encode)
    else none := by
  unfold frameD unitOpD
  simp only
  by_cases k6 : kind = 6
  · rw [if_pos k6, if_pos k6]
  rw [if_neg k6, if_neg k6]
  by_cases k1 : kind = 1
  · rw [if_pos (by omega), if_pos k1, if_pos k1]
  by_cases k2 : kind = 2
  · rw [if_pos (by omega), if_neg k1, if_neg k1, if_pos k2, if_pos k2]
  by_cases k3 : kind = 3
  · rw [if_pos (by omega), if_neg k1, if_neg k1, if_neg k2, if_neg k2, if_pos k3, if_pos k3]
  by_cases k4 : kind = 4
  · subst k4; rfl
  by_cases k5 : kind = 5
  · subst k5; rfl
  by_cases k7 : kind = 7
  · subst k7; rfl
  rw [if_neg (by omega), if_neg k7, if_neg k1, if_neg k2, if_neg k3, if_neg k4, if_neg k5, if_neg k7]
theorem fdS {w : World} {b o0 : Nat} {mb cb : Nat} {m : DevM} {lg vv val x0 x1 x2 x3 x4 x5 x6 : Value} (h : Blk w b 95 (rdCells m mb cb lg vv val)) (hO : Blk w o0 50 #[x0, x1, x2, x3, x4, x5, x6]) :
    w.cell? ⟨b, 20, none⟩ = some (.int .u32 m.number) ∧ w.cell? ⟨o0, 1, none⟩ = some x1 ∧ w.cell? ⟨o0, 2, none⟩ = some x2 ∧ w.cell? ⟨o0, 4, none⟩ = some x4 :=
  ⟨(h.cell 20).trans rfl, (hO.cell 1).trans rfl, (hO.cell 2).trans rfl, (hO.cell 4).trans rfl⟩
theorem fdS18 {w : World} {b o0 : Nat} {mb cb : Nat} {m : DevM} {lg vv val x0 x1 x2 x3 x4 x5 x6 : Value} (h : Blk w b 95 (rdCells m mb cb lg vv val)) (hO : Blk w o0 50 #[x0, x1, x2, x3, x4, x5, x6]) :
    w.cell? ⟨b, 4, none⟩ = some (.int .u32 m.p.count) ∧ w.cell? ⟨o0, 0, none⟩ = some x0 :=
  ⟨(h.cell 4).trans rfl, (hO.cell 0).trans rfl⟩
theorem l13frame_at (k code s n f : Int) (data : List UInt8) (A : Option Addr) (len cap B : Nat) (w : World) (hlen : data.length = len) (hc : 0 ≤ code ∧ code < 4294967296) (hs : 0 ≤ s ∧ s < 4294967296) (hn : 0 ≤ n ∧ n < 4294967296) (hr : Reads w B 1 A len (u8c data)) (hB : B ≤ w.heap.size) :
    Calls Tryz.prog 44 #[.agg #[.int .i64 k, .int .u32 code, .int .u32 s, .int .u32 n, .int .i64 f, .slice A len cap]] w fun e w' => ∃ v, e = .returned v ∧ w'.ownsRow w.heap.size 5 1 v (UnitM.mk k code s n f data).encode.length (u8c (UnitM.mk k code s n f data).encode) ∧ Below w.heap.size w w' := by
  subst hlen
  exact l13frame_any ⟨k, code, s, n, f, data⟩ A cap B w ⟨hc, hs, hn⟩ hr hB
theorem l13Frame_any (B b mb : Nat) (m : DevM) (F : Nat → Prop) (o : OpM) (A : Option Addr) (c Br : Nat) (w : World) (h0 : RDIs B w b mb m F) (hi : m.Inv) (ho : o.Ok) (hr : Reads w Br 1 A o.data.length (u8c o.data)) (hBr : Br ≤ w.heap.size) (hoc : o.data.length ≤ c) (hod : o.data.length ≤ 140737488351232) :
    Calls Tryz.prog 19 #[.pointer (some ⟨b, 0, none⟩), opVal o (.slice A o.data.length c)] w fun e w' => ∃ v, e = .returned (.tuple #[v, .bool (frameD m o).isSome]) ∧ (frameD m o = none → v = .slice none 0 0) ∧ (∀ f, frameD m o = some f → w'.ownsRow w.heap.size 5 1 v f.length (u8c f)) ∧ Below w.heap.size w w' := by
  obtain ⟨kind, on_, flags, odd, data, at_, word⟩ := o
  simp only at *
  obtain ⟨⟨κ0, A0, c0, vv0, val0, cb0, hH, hF0⟩, hlo0⟩ := h0
  have hO := Blk.new w 50 #[.int .i64 kind, .int .i64 on_, .int .i64 flags, .bool odd, .slice A data.length c, .int .i64 at_, .int .u32 word]
  have hbO := (Below.refl w.heap.size w).alloc (Nat.le_refl _) (.cells #[.int .i64 kind, .int .i64 on_, .int .i64 flags, .bool odd, .slice A data.length c, .int .i64 at_, .int .u32 word] 50)
  have hp := hi.pok
  have hsg := fun W => r9sign_any m.p W hp hi.plaw
  unfold parVal at hsg
  have hsl := sign_length m.p
  obtain ⟨r, Hr⟩ : ∃ r, Hid (r = frameD m ⟨kind, on_, flags, odd, data, at_, word⟩) := ⟨_, Lib.hid rfl⟩
  rw [← Hr.out]
  have hH1 := hH.below hbO
  have hr1 := hr.below (hbO.mono hBr)
  have hoF : ∀ x, F x → x ≠ w.heap.size := fun x hx e => by have := (hlo0 x hx).2; omega
  obtain ⟨o0, Ho0⟩ : ∃ e, Hid (e = w.heap.size) := ⟨_, Lib.hid rfl⟩
  unfold opVal
  have hrw := hr
  clear hr
  go_enter Tryz.func19, Tryz.ntmps19
  go_upto_region 1 with fail
  rw [← Ho0.out] at hO hoF ⊢
  generalize w.alloc (.cells _ 50) = W1 at *
  have hc := hH1.blk.cell
  unfold rdCells at hc
  go_wp2_with fail
  refine (hsg _).mono ?_
  rintro e W2 ⟨v2, rfl, hown2, hb2⟩
  obtain ⟨A2, c2, rfl⟩ := own_slice hown2
  have hH2 := hH1.below hb2
  have hO2 := hO.below hb2 hO.lt
  have hs1 := hbO.size
  have hr2 := hr1.below (hb2.mono (by omega))
  have hbO2 := hbO.trans (hb2.mono hs1)
  clear hc hH1 hr1 hsg
  have hc := hH2.blk.cell
  unfold rdCells at hc
  have hcA := (hH2.blk.alloc (.cells #[.int .i64 0, .int .u32 0, .int .u32 0, .int .u32 0, .int .i64 0, .slice none 0 0] 64)).cell
  unfold rdCells at hcA
  go_wp2_with fail
  go_region
  clear hcA
  obtain ⟨g, rfl⟩ := own_some hown2 (by omega)
  have hgl := hown2.lt g rfl
  have hs2 := hbO2.size
  have hU3 := (Blk.new W2 64 #[.int .i64 0, .int .u32 m.p.code, .int .u32 m.session, .int .u32 0, .int .i64 0, .slice none 0 0]).drew
  have hown3 := own_below hown2 ((Below.refl W2.heap.size W2).alloc (Nat.le_refl _) (.cells #[.int .i64 0, .int .u32 m.p.code, .int .u32 m.session, .int .u32 0, .int .i64 0, .slice none 0 0] 64)).drew
  have hO3 := (hO2.alloc (.cells #[.int .i64 0, .int .u32 m.p.code, .int .u32 m.session, .int .u32 0, .int .i64 0, .slice none 0 0] 64)).drew
  have hb3 := (hbO2.alloc hs2 (.cells #[.int .i64 0, .int .u32 m.p.code, .int .u32 m.session, .int .u32 0, .int .i64 0, .slice none 0 0] 64)).drew
  have hou : o0 ≠ W2.heap.size := by have := hO2.lt; omega
  have hgo : o0 < g := by have := hO.lt; omega
  obtain ⟨u0, Hu0⟩ : ∃ e, Hid (e = W2.heap.size) := ⟨_, Lib.hid rfl⟩
  have hgu : g < u0 := by have := Hu0.out; omega
  rw [← Hu0.out] at hU3 hou ⊢
  clear hc hH2 hO2 hr2 hown2
  generalize (W2.alloc (.cells #[.int .i64 0, .int .u32 m.p.code, .int .u32 m.session, .int .u32 0, .int .i64 0, .slice none 0 0] 64)).drew = W3 at *
  have hwu : w.heap.size ≤ u0 := by have := Hu0.out; omega
  have hwg : w.heap.size ≤ g := by have := Ho0.out; omega
  have hoc3 := hO3.cell
  go_upto_if 27 with (fail)
  go_cut [] (fun wc => Blk wc u0 64 #[.int .i64 0, .int .u32 m.p.code, .int .u32 (if odd then addU m.session 1 else m.session), .int .u32 0, .int .i64 0, .slice none 0 0] ∧ wc.ownsRow W1.heap.size 5 1 (.slice (some ⟨g, 0, none⟩) 4 c2) 4 (u8c (signOfD m.p odd)) ∧ Blk wc o0 50 #[.int .i64 kind, .int .i64 on_, .int .i64 flags, .bool odd, .slice A data.length c, .int .i64 at_, .int .u32 word] ∧ Below w.heap.size w wc)
  case first =>
    cases odd
    case true =>
      have hw1 : IntKind.u32.wrap (m.session + 1) = addU m.session 1 := IntKind.wrap_u32 _
      have huc := hU3.cell
      have huf := hU3.frozen
      go_upto_region 5 with fail
      have hU4 : Blk (W3.setCell ⟨u0, 2, none⟩ (.int .u32 (addU m.session 1))) u0 64 #[.int .i64 0, .int .u32 m.p.code, .int .u32 (addU m.session 1), .int .u32 0, .int .i64 0, .slice none 0 0] := by simpa using hU3.set_ 2 (.int .u32 (addU m.session 1))
      have hown4 := own_far hown3 (fun e => by simp [Value.ownBlock] at e; omega) 2 (.int .u32 (addU m.session 1)) (g := u0)
      have hO4 := hO3.far (p := ⟨u0, 2, none⟩) hou (.int .u32 (addU m.session 1))
      have hb4 : Below w.heap.size w (W3.setCell ⟨u0, 2, none⟩ (.int .u32 (addU m.session 1))) := hb3.setCell hwu _
      clear huc huf hoc3
      generalize W3.setCell ⟨u0, 2, none⟩ (.int .u32 (addU m.session 1)) = W4 at *
      have hcell : W4.cell? ⟨g, 0, none⟩ = some (.int .u8 ((m.p.sign.getD 0 0).toNat : Int)) := by have h := (Reads.of_own hown4).byte 0 (by omega); exact h
      have hfz := (own_at (k := 0) hown4).1
      have hxb := xor_byte (m.p.sign.getD 0 0) 1
      rw [show (((1 : UInt8).toNat : Nat) : Int) = 1 by rfl] at hxb
      have hown5 := own_set1 hown4 0 (.int .u8 ((m.p.sign.getD 0 0 ^^^ 1).toNat : Int))
      have hset : (u8c m.p.sign).set 0 (.int .u8 ((m.p.sign.getD 0 0 ^^^ 1).toNat : Int)) = u8c (signOfD m.p true) := by
        unfold signOfD
        rw [if_pos rfl]
        simp [u8c, List.map_set]
      rw [hset] at hown5
      clear hset
      generalize m.p.sign.getD 0 0 = x at *
      have hU5 := hU4.far (p := ⟨g, 0, none⟩) (fun e => by simp at e; omega) (.int .u8 ((x ^^^ 1).toNat : Int))
      have hO5 := hO4.far (p := ⟨g, 0, none⟩) (fun e => by simp at e; omega) (.int .u8 ((x ^^^ 1).toNat : Int))
      have hb5 : Below w.heap.size w (W4.setCell ⟨g, 0, none⟩ (.int .u8 ((x ^^^ 1).toNat : Int))) := hb4.setCell hwg _
      have Hown5 := Lib.hid hown5
      clear hown5
      go_wp2_with fail
      go_meet
      exact ⟨hU5, Hown5.out, hO5, hb5⟩
    case false =>
      go_wp2_with fail
      go_meet
      exact ⟨hU3, hown3, hO3, hb3⟩
  case rest =>
  obtain ⟨hU5, hown5, hO5, hb5⟩ := hcut
  obtain ⟨W5, rfl⟩ : ∃ W : World, W = wc := ⟨_, rfl⟩
  have hH5 := hH.below hb5
  have hs5 := hb5.size
  have hBr5 : Br ≤ W5.heap.size := by omega
  have hr5 := hrw.below (hb5.mono hBr)
  have hssr : 0 ≤ (if odd then addU m.session 1 else m.session) ∧ (if odd then addU m.session 1 else m.session) < 4294967296 := by
    split
    · exact addU_ok _ _
    · exact hi.session
  have hsg4 := signOfD_length m.p odd
  obtain ⟨ss, hssE⟩ : ∃ s : Int, (if odd then addU m.session 1 else m.session) = s := ⟨_, rfl⟩
  obtain ⟨sg, hsgE⟩ : ∃ s, signOfD m.p odd = s := ⟨_, rfl⟩
  rw [hssE] at hU5 hssr
  rw [hsgE] at hown5 hsg4
  have hFr := frameD_eq m kind on_ flags odd data at_ word
  rw [hssE, hsgE] at hFr
  replace Hr : Hid (r = _) := Lib.hid (Hr.out.trans hFr)
  clear hFr hssE hsgE
  have hub : u0 ≠ b := fun e => by have := (hH.inF hH.kb).2; omega
  have huo : u0 ≠ o0 := fun e => hou e.symm
  have ha3 : (m.session + on_ % 4294967296) % 4294967296 = addU m.session on_ := by unfold addU; omega
  have ha4 : (m.number + on_ % 4294967296) % 4294967296 = addU m.number on_ := by unfold addU; omega
  have ha1 : (m.session + on_) % 4294967296 = addU m.session on_ := rfl
  have ha2 : (m.number + on_) % 4294967296 = addU m.number on_ := rfl
  by_cases k1 : kind = 1
  · subst k1
    have hrr : r = some (UnitM.mk 1 m.p.code 0 0 0 sg).encode := by rw [Hr.out]; rfl
    subst hrr
    clear Hr
    have hc := hH5.blk.cell
    unfold rdCells at hc
    have huc := hU5.cell
    have huf := hU5.frozen
    have hoc := hO5.cell
    have hU6 : Blk (((W5.setCell ⟨u0, 0, none⟩ (.int .i64 1)).setCell ⟨u0, 2, none⟩ (.int .u32 0)).setCell ⟨u0, 5, none⟩ (.slice (some ⟨g, 0, none⟩) 4 c2)) u0 64 #[.int .i64 1, .int .u32 m.p.code, .int .u32 0, .int .u32 0, .int .i64 0, .slice (some ⟨g, 0, none⟩) 4 c2] := by simpa using (((hU5.set_ 0 (.int .i64 1)).set_ 2 (.int .u32 0)).set_ 5 (.slice (some ⟨g, 0, none⟩) 4 c2))
    have hk6 : Keep (fun x => x = u0) W5 (((W5.setCell ⟨u0, 0, none⟩ (.int .i64 1)).setCell ⟨u0, 2, none⟩ (.int .u32 0)).setCell ⟨u0, 5, none⟩ (.slice (some ⟨g, 0, none⟩) 4 c2)) := ((((Keep.refl (fun x => x = u0) W5).setCell (p := ⟨u0, 0, none⟩) (fun _ => rfl) (.int .i64 1)).setCell (p := ⟨u0, 2, none⟩) (fun _ => rfl) (.int .u32 0)).setCell (p := ⟨u0, 5, none⟩) (fun _ => rfl) (.slice (some ⟨g, 0, none⟩) 4 c2))
    go_upto_region 23 with fail
    clear hc huc huf hoc
    generalize (((W5.setCell ⟨u0, 0, none⟩ (.int .i64 1)).setCell ⟨u0, 2, none⟩ (.int .u32 0)).setCell ⟨u0, 5, none⟩ (.slice (some ⟨g, 0, none⟩) 4 c2)) = W6 at *
    have hO6 := hO5.keep hk6 hou
    have hown6 := ownsRow_keep hown5 hk6 (fun x hx e => by simp [Value.ownBlock] at hx; omega)
    have hb6 := hb5.trans (hk6.below hs5 (fun x e => e ▸ hwu))
    have hr6 := hr5.below (hk6.below hBr5 (fun x e => by subst e; omega))
    have huc := hU6.cell
    have hoc := hO6.cell
    have hs6 := hb6.size
    go_wp2_with fail
    refine (l13frame_at 1 m.p.code 0 0 0 sg (some ⟨g, 0, none⟩) 4 c2 W6.heap.size W6 hsg4 hp.code (by omega) (by omega) (Reads.of_own hown6) (by omega)).mono ?_
    rintro e W7 ⟨v7, rfl, hown7, hb7⟩
    obtain ⟨A7, c7, rfl⟩ := own_slice hown7
    have hO7 := hO6.below hb7 hO6.lt
    have hb8 := hb6.trans (hb7.mono hs6)
    clear hoc huc
    have hoc := hO7.cell
    go_wp2_with fail
    refine bodyPost_ret (v := .tuple #[.slice A7 (UnitM.mk 1 m.p.code 0 0 0 sg).encode.length c7, .bool true]) (by simp [results, Tryz.results19, go_sem]) rfl ?_
    first
      | exact ⟨_, rfl, own_base hown7 hs6, hb8⟩
      | exact ⟨_, rfl, (fun h => by cases h), (fun f hf => by injection hf with hf; subst hf; exact own_base hown7 hs6), hb8⟩
  by_cases k2 : kind = 2
  · subst k2
    obtain ⟨s2, hs2E⟩ : ∃ s : Int, (if odd = true ∧ on_.tmod 2 = 0 then m.session else ss) = s := ⟨_, rfl⟩
    have hs2r : 0 ≤ s2 ∧ s2 < 4294967296 := by
      rw [← hs2E]
      split
      · exact hi.session
      · exact hssr
    have hrr : r = some (UnitM.mk 2 m.p.code s2 0 0 sg).encode := by rw [Hr.out, ← hs2E]; rfl
    subst hrr
    clear Hr
    have hc := hH5.blk.cell
    unfold rdCells at hc
    have huc := hU5.cell
    have huf := hU5.frozen
    have hoc := hO5.cell
    have hU6 : Blk ((W5.setCell ⟨u0, 0, none⟩ (.int .i64 2)).setCell ⟨u0, 5, none⟩ (.slice (some ⟨g, 0, none⟩) 4 c2)) u0 64 #[.int .i64 2, .int .u32 m.p.code, .int .u32 ss, .int .u32 0, .int .i64 0, .slice (some ⟨g, 0, none⟩) 4 c2] := by simpa using (hU5.set_ 0 (.int .i64 2)).set_ 5 (.slice (some ⟨g, 0, none⟩) 4 c2)
    have hk6 : Keep (fun x => x = u0) W5 ((W5.setCell ⟨u0, 0, none⟩ (.int .i64 2)).setCell ⟨u0, 5, none⟩ (.slice (some ⟨g, 0, none⟩) 4 c2)) := (((Keep.refl (fun x => x = u0) W5).setCell (p := ⟨u0, 0, none⟩) (fun _ => rfl) (.int .i64 2)).setCell (p := ⟨u0, 5, none⟩) (fun _ => rfl) (.slice (some ⟨g, 0, none⟩) 4 c2))
    go_upto_region 12 with fail
    generalize (W5.setCell ⟨u0, 0, none⟩ (.int .i64 2)).setCell ⟨u0, 5, none⟩ (.slice (some ⟨g, 0, none⟩) 4 c2) = W6 at *
    clear hc huc huf hoc
    have hO6 := hO5.keep hk6 hou
    have hown6 := ownsRow_keep hown5 hk6 (fun x hx e => by simp [Value.ownBlock] at hx; omega)
    have hb6 := hb5.trans (hk6.below hs5 (fun x e => e ▸ hwu))
    have hH6 := hH.below hb6
    have hc := hH6.blk.cell
    unfold rdCells at hc
    have huc := hU6.cell
    have huf := hU6.frozen
    have hoc := hO6.cell
    cases odd
    case true =>
      have Hs2 : Hid (s2 = if on_.tmod 2 = 0 then m.session else ss) := Lib.hid (by rw [← hs2E]; simp)
      clear hs2E
      go_upto_if 57 with (fail)
      generalize on_.tmod 2 = tm at *
      obtain ⟨tb, Htb⟩ : ∃ x, Hid (x = (tm == 0)) := ⟨_, Lib.hid rfl⟩
      rw [← Htb.out]
      cases tb
      case true =>
        have h0 : tm = 0 := by have := Htb.out; simpa using this.symm
        have e2 : s2 = m.session := by rw [Hs2.out, if_pos h0]
        subst e2
        clear Htb Hs2 h0
        have hU7 : Blk (W6.setCell ⟨u0, 2, none⟩ (.int .u32 m.session)) u0 64 #[.int .i64 2, .int .u32 m.p.code, .int .u32 m.session, .int .u32 0, .int .i64 0, .slice (some ⟨g, 0, none⟩) 4 c2] := by simpa using hU6.set_ 2 (.int .u32 m.session)
        have hk7 : Keep (fun x => x = u0) W6 (W6.setCell ⟨u0, 2, none⟩ (.int .u32 m.session)) := (Keep.refl (fun x => x = u0) W6).setCell (p := ⟨u0, 2, none⟩) (fun _ => rfl) (.int .u32 m.session)
        go_upto_region 23 with fail
        generalize W6.setCell ⟨u0, 2, none⟩ (.int .u32 m.session) = W6b at *
        have hO7b := hO6.keep hk7 hou
        have hown7b := ownsRow_keep hown6 hk7 (fun x hx e => by simp [Value.ownBlock] at hx; omega)
        have hb7b := hb6.trans (hk7.below hb6.size (fun x e => e ▸ hwu))
        have hrW6b := Reads.of_own hown7b
        have hsW6b := hb7b.size
        clear hc huc huf hoc
        have huc := hU7.cell
        have hoc := hO7b.cell
        go_wp2_with fail
        refine (l13frame_at 2 m.p.code m.session 0 0 sg (some ⟨g, 0, none⟩) 4 c2 W6b.heap.size W6b hsg4 hp.code hi.session (by omega) hrW6b (Nat.le_refl _)).mono ?_
        rintro e W7 ⟨v7, rfl, hown7, hb7⟩
        obtain ⟨A7, c7, rfl⟩ := own_slice hown7
        have hO7 := hO7b.below hb7 hO7b.lt
        have hb8 := hb7b.trans (hb7.mono hsW6b)
        clear hoc huc
        have hoc := hO7.cell
        go_wp2_with fail
        refine bodyPost_ret (v := .tuple #[.slice A7 (UnitM.mk 2 m.p.code m.session 0 0 sg).encode.length c7, .bool true]) (by simp [results, Tryz.results19, go_sem]) rfl ?_
        exact ⟨_, rfl, (fun h => by cases h), (fun f hf => by injection hf with hf; subst hf; exact own_base hown7 hsW6b), hb8⟩
      case false =>
        have h0 : ¬ tm = 0 := by have := Htb.out; simpa using this.symm
        have e2 : s2 = ss := by rw [Hs2.out, if_neg h0]
        subst e2
        clear Htb Hs2 h0
        go_upto_region 23 with fail
        have hrW6 := Reads.of_own hown6
        have hsW6 := hb6.size
        clear hc huc huf hoc
        have huc := hU6.cell
        have hoc := hO6.cell
        go_wp2_with fail
        refine (l13frame_at 2 m.p.code s2 0 0 sg (some ⟨g, 0, none⟩) 4 c2 W6.heap.size W6 hsg4 hp.code hssr (by omega) hrW6 (Nat.le_refl _)).mono ?_
        rintro e W7 ⟨v7, rfl, hown7, hb7⟩
        obtain ⟨A7, c7, rfl⟩ := own_slice hown7
        have hO7 := hO6.below hb7 hO6.lt
        have hb8 := hb6.trans (hb7.mono hsW6)
        clear hoc huc
        have hoc := hO7.cell
        go_wp2_with fail
        refine bodyPost_ret (v := .tuple #[.slice A7 (UnitM.mk 2 m.p.code s2 0 0 sg).encode.length c7, .bool true]) (by simp [results, Tryz.results19, go_sem]) rfl ?_
        exact ⟨_, rfl, (fun h => by cases h), (fun f hf => by injection hf with hf; subst hf; exact own_base hown7 hsW6), hb8⟩
    case false =>
      have e2 : s2 = ss := by rw [← hs2E]; simp
      subst e2
      clear hs2E
      go_upto_region 23 with fail
      have hrW6 := Reads.of_own hown6
      have hsW6 := hb6.size
      clear hc huc huf hoc
      have huc := hU6.cell
      have hoc := hO6.cell
      go_wp2_with fail
      refine (l13frame_at 2 m.p.code s2 0 0 sg (some ⟨g, 0, none⟩) 4 c2 W6.heap.size W6 hsg4 hp.code hssr (by omega) hrW6 (Nat.le_refl _)).mono ?_
      rintro e W7 ⟨v7, rfl, hown7, hb7⟩
      obtain ⟨A7, c7, rfl⟩ := own_slice hown7
      have hO7 := hO6.below hb7 hO6.lt
      have hb8 := hb6.trans (hb7.mono hsW6)
      clear hoc huc
      have hoc := hO7.cell
      go_wp2_with fail
      refine bodyPost_ret (v := .tuple #[.slice A7 (UnitM.mk 2 m.p.code s2 0 0 sg).encode.length c7, .bool true]) (by simp [results, Tryz.results19, go_sem]) rfl ?_
      exact ⟨_, rfl, (fun h => by cases h), (fun f hf => by injection hf with hf; subst hf; exact own_base hown7 hsW6), hb8⟩
  by_cases k3 : kind = 3
  · subst k3
    have hrr : r = some (UnitM.mk 3 m.p.code ss 0 0 []).encode := by rw [Hr.out]; rfl
    subst hrr
    clear Hr
    have hc := hH5.blk.cell
    unfold rdCells at hc
    have huc := hU5.cell
    have huf := hU5.frozen
    have hoc := hO5.cell
    have hU6 : Blk (W5.setCell ⟨u0, 0, none⟩ (.int .i64 3)) u0 64 #[.int .i64 3, .int .u32 m.p.code, .int .u32 ss, .int .u32 0, .int .i64 0, .slice none 0 0] := by simpa using (hU5.set_ 0 (.int .i64 3))
    have hk6 : Keep (fun x => x = u0) W5 (W5.setCell ⟨u0, 0, none⟩ (.int .i64 3)) := ((Keep.refl (fun x => x = u0) W5).setCell (p := ⟨u0, 0, none⟩) (fun _ => rfl) (.int .i64 3))
    go_upto_region 23 with fail
    clear hc huc huf hoc
    generalize (W5.setCell ⟨u0, 0, none⟩ (.int .i64 3)) = W6 at *
    have hO6 := hO5.keep hk6 hou
    have hown6 := ownsRow_keep hown5 hk6 (fun x hx e => by simp [Value.ownBlock] at hx; omega)
    have hb6 := hb5.trans (hk6.below hs5 (fun x e => e ▸ hwu))
    have hr6 := hr5.below (hk6.below hBr5 (fun x e => by subst e; omega))
    have huc := hU6.cell
    have hoc := hO6.cell
    have hs6 := hb6.size
    go_wp2_with fail
    refine (l13frame_at 3 m.p.code ss 0 0 [] none 0 0 0 W6 rfl hp.code hssr (by omega) Reads.none_ (by omega)).mono ?_
    rintro e W7 ⟨v7, rfl, hown7, hb7⟩
    obtain ⟨A7, c7, rfl⟩ := own_slice hown7
    have hO7 := hO6.below hb7 hO6.lt
    have hb8 := hb6.trans (hb7.mono hs6)
    clear hoc huc
    have hoc := hO7.cell
    go_wp2_with fail
    refine bodyPost_ret (v := .tuple #[.slice A7 (UnitM.mk 3 m.p.code ss 0 0 []).encode.length c7, .bool true]) (by simp [results, Tryz.results19, go_sem]) rfl ?_
    first
      | exact ⟨_, rfl, own_base hown7 hs6, hb8⟩
      | exact ⟨_, rfl, (fun h => by cases h), (fun f hf => by injection hf with hf; subst hf; exact own_base hown7 hs6), hb8⟩
  by_cases k4 : kind = 4
  · subst k4
    have hrr : r = some (UnitM.mk 4 m.p.code ss (addU m.number on_) flags data).encode := by rw [Hr.out]; rfl
    subst hrr
    clear Hr
    have hoc := hO5.cell
    go_upto_region 18 with fail
    have hbH := hH5.blk.drew
    have hOd := hO5.drew
    have huc := hU5.drew.cell
    have huf := hU5.drew.frozen
    have huc0 := hU5.cell
    have huf0 := hU5.frozen
    clear hoc
    go_wp2_with fail
    go_region_held (fun w' => w'.cell? ⟨b, 20, none⟩ = some (.int .u32 m.number) ∧ w'.cell? ⟨o0, 1, none⟩ = some (.int .i64 on_) ∧ w'.cell? ⟨o0, 2, none⟩ = some (.int .i64 flags) ∧ w'.cell? ⟨o0, 4, none⟩ = some (.slice A data.length c)) (with_reducible (first | exact fdS hbH hOd | exact fdS (hH5.blk.farU hub _ _).drew (hO5.farU huo _ _).drew | exact fdS ((hH5.blk.farU hub _ _).farU hub _ _).drew ((hO5.farU huo _ _).farU huo _ _).drew | exact fdS (((hH5.blk.farU hub _ _).farU hub _ _).farU hub _ _).drew (((hO5.farU huo _ _).farU huo _ _).farU huo _ _).drew | exact fdS ((((hH5.blk.farU hub _ _).farU hub _ _).farU hub _ _).farU hub _ _).drew ((((hO5.farU huo _ _).farU huo _ _).farU huo _ _).farU huo _ _).drew)) (first | fail)
    have hU6 : Blk ((((W5.setCell ⟨u0, 0, none⟩ (.int .i64 4)).setCell ⟨u0, 3, none⟩ (.int .u32 (addU m.number on_))).setCell ⟨u0, 4, none⟩ (.int .i64 flags)).setCell ⟨u0, 5, none⟩ (.slice A data.length c)).drew u0 64 #[.int .i64 4, .int .u32 m.p.code, .int .u32 ss, .int .u32 (addU m.number on_), .int .i64 flags, .slice A data.length c] := by simpa using ((((hU5.set_ 0 (.int .i64 4)).set_ 3 (.int .u32 (addU m.number on_))).set_ 4 (.int .i64 flags)).set_ 5 (.slice A data.length c)).drew
    have hk6 : Keep (fun x => x = u0) W5 ((((W5.setCell ⟨u0, 0, none⟩ (.int .i64 4)).setCell ⟨u0, 3, none⟩ (.int .u32 (addU m.number on_))).setCell ⟨u0, 4, none⟩ (.int .i64 flags)).setCell ⟨u0, 5, none⟩ (.slice A data.length c)).drew := (((((Keep.refl (fun x => x = u0) W5).setCell (p := ⟨u0, 0, none⟩) (fun _ => rfl) (.int .i64 4)).setCell (p := ⟨u0, 3, none⟩) (fun _ => rfl) (.int .u32 (addU m.number on_))).setCell (p := ⟨u0, 4, none⟩) (fun _ => rfl) (.int .i64 flags)).setCell (p := ⟨u0, 5, none⟩) (fun _ => rfl) (.slice A data.length c)).drew
    go_upto_region 23 with fail
    clear huc huf huc0 huf0 hbH hOd
    rw [addU_wrap]
    generalize ((((W5.setCell ⟨u0, 0, none⟩ (.int .i64 4)).setCell ⟨u0, 3, none⟩ (.int .u32 (addU m.number on_))).setCell ⟨u0, 4, none⟩ (.int .i64 flags)).setCell ⟨u0, 5, none⟩ (.slice A data.length c)).drew = W6 at *
    have hO6 := hO5.keep hk6 hou
    have hown6 := ownsRow_keep hown5 hk6 (fun x hx e => by simp [Value.ownBlock] at hx; omega)
    have hb6 := hb5.trans (hk6.below hs5 (fun x e => e ▸ hwu))
    have hr6 := hr5.below (hk6.below hBr5 (fun x e => by subst e; omega))
    have huc := hU6.cell
    have hoc := hO6.cell
    have hs6 := hb6.size
    go_wp2_with fail
    refine (l13frame_at 4 m.p.code ss ((addU m.number on_)) flags data A data.length c Br W6 rfl hp.code hssr (addU_ok _ _) hr6 (by omega)).mono ?_
    rintro e W7 ⟨v7, rfl, hown7, hb7⟩
    obtain ⟨A7, c7, rfl⟩ := own_slice hown7
    have hO7 := hO6.below hb7 hO6.lt
    have hb8 := hb6.trans (hb7.mono hs6)
    clear hoc huc
    have hoc := hO7.cell
    go_wp2_with fail
    refine bodyPost_ret (v := .tuple #[.slice A7 (UnitM.mk 4 m.p.code ss (addU m.number on_) flags data).encode.length c7, .bool true]) (by simp [results, Tryz.results19, go_sem]) rfl ?_
    first
      | exact ⟨_, rfl, own_base hown7 hs6, hb8⟩
      | exact ⟨_, rfl, (fun h => by cases h), (fun f hf => by injection hf with hf; subst hf; exact own_base hown7 hs6), hb8⟩
  by_cases k5 : kind = 5
  · subst k5
    have hrr : r = some (UnitM.mk 5 m.p.code ss m.p.count 0 []).encode := by rw [Hr.out]; rfl
    subst hrr
    clear Hr
    have hoc := hO5.cell
    go_upto_region 20 with fail
    have hbH := hH5.blk.drew
    have hOd := hO5.drew
    have huc := hU5.drew.cell
    have huf := hU5.drew.frozen
    have huc0 := hU5.cell
    have huf0 := hU5.frozen
    clear hoc
    go_wp2_with fail
    go_region_held (fun w' => w'.cell? ⟨b, 4, none⟩ = some (.int .u32 m.p.count) ∧ w'.cell? ⟨o0, 0, none⟩ = some (.int .i64 5)) (with_reducible (first | exact fdS18 hbH hOd | exact fdS18 (hH5.blk.farU hub _ _).drew (hO5.farU huo _ _).drew | exact fdS18 ((hH5.blk.farU hub _ _).farU hub _ _).drew ((hO5.farU huo _ _).farU huo _ _).drew)) (first | fail)
    have hU6 : Blk ((W5.setCell ⟨u0, 0, none⟩ (.int .i64 5)).setCell ⟨u0, 3, none⟩ (.int .u32 m.p.count)).drew u0 64 #[.int .i64 5, .int .u32 m.p.code, .int .u32 ss, .int .u32 m.p.count, .int .i64 0, .slice none 0 0] := by simpa using ((hU5.set_ 0 (.int .i64 5)).set_ 3 (.int .u32 m.p.count)).drew
    have hk6 : Keep (fun x => x = u0) W5 ((W5.setCell ⟨u0, 0, none⟩ (.int .i64 5)).setCell ⟨u0, 3, none⟩ (.int .u32 m.p.count)).drew := (((Keep.refl (fun x => x = u0) W5).setCell (p := ⟨u0, 0, none⟩) (fun _ => rfl) (.int .i64 5)).setCell (p := ⟨u0, 3, none⟩) (fun _ => rfl) (.int .u32 m.p.count)).drew
    go_upto_region 23 with fail
    clear huc huf huc0 huf0 hbH hOd
    generalize ((W5.setCell ⟨u0, 0, none⟩ (.int .i64 5)).setCell ⟨u0, 3, none⟩ (.int .u32 m.p.count)).drew = W6 at *
    have hO6 := hO5.keep hk6 hou
    have hown6 := ownsRow_keep hown5 hk6 (fun x hx e => by simp [Value.ownBlock] at hx; omega)
    have hb6 := hb5.trans (hk6.below hs5 (fun x e => e ▸ hwu))
    have hr6 := hr5.below (hk6.below hBr5 (fun x e => by subst e; omega))
    have huc := hU6.cell
    have hoc := hO6.cell
    have hs6 := hb6.size
    go_wp2_with fail
    refine (l13frame_at 5 m.p.code ss m.p.count 0 [] none 0 0 0 W6 rfl hp.code hssr hp.count Reads.none_ (by omega)).mono ?_
    rintro e W7 ⟨v7, rfl, hown7, hb7⟩
    obtain ⟨A7, c7, rfl⟩ := own_slice hown7
    have hO7 := hO6.below hb7 hO6.lt
    have hb8 := hb6.trans (hb7.mono hs6)
    clear hoc huc
    have hoc := hO7.cell
    go_wp2_with fail
    refine bodyPost_ret (v := .tuple #[.slice A7 (UnitM.mk 5 m.p.code ss m.p.count 0 []).encode.length c7, .bool true]) (by simp [results, Tryz.results19, go_sem]) rfl ?_
    first
      | exact ⟨_, rfl, own_base hown7 hs6, hb8⟩
      | exact ⟨_, rfl, (fun h => by cases h), (fun f hf => by injection hf with hf; subst hf; exact own_base hown7 hs6), hb8⟩
  by_cases k7 : kind = 7
  · subst k7
    have hoc := hO5.cell
    go_upto_region 18 with fail
    have hbH := hH5.blk.drew
    have hOd := hO5.drew
    have huc := hU5.drew.cell
    have huf := hU5.drew.frozen
    have huc0 := hU5.cell
    have huf0 := hU5.frozen
    clear hoc
    go_wp2_with fail
    go_region_held (fun w' => w'.cell? ⟨b, 20, none⟩ = some (.int .u32 m.number) ∧ w'.cell? ⟨o0, 1, none⟩ = some (.int .i64 on_) ∧ w'.cell? ⟨o0, 2, none⟩ = some (.int .i64 flags) ∧ w'.cell? ⟨o0, 4, none⟩ = some (.slice A data.length c)) (with_reducible (first | exact fdS hbH hOd | exact fdS (hH5.blk.farU hub _ _).drew (hO5.farU huo _ _).drew | exact fdS ((hH5.blk.farU hub _ _).farU hub _ _).drew ((hO5.farU huo _ _).farU huo _ _).drew | exact fdS (((hH5.blk.farU hub _ _).farU hub _ _).farU hub _ _).drew (((hO5.farU huo _ _).farU huo _ _).farU huo _ _).drew | exact fdS ((((hH5.blk.farU hub _ _).farU hub _ _).farU hub _ _).farU hub _ _).drew ((((hO5.farU huo _ _).farU huo _ _).farU huo _ _).farU huo _ _).drew)) (first | fail)
    have hU6 : Blk ((((W5.setCell ⟨u0, 0, none⟩ (.int .i64 4)).setCell ⟨u0, 3, none⟩ (.int .u32 (addU m.number on_))).setCell ⟨u0, 4, none⟩ (.int .i64 flags)).setCell ⟨u0, 5, none⟩ (.slice A data.length c)).drew u0 64 #[.int .i64 4, .int .u32 m.p.code, .int .u32 ss, .int .u32 (addU m.number on_), .int .i64 flags, .slice A data.length c] := by simpa using ((((hU5.set_ 0 (.int .i64 4)).set_ 3 (.int .u32 (addU m.number on_))).set_ 4 (.int .i64 flags)).set_ 5 (.slice A data.length c)).drew
    have hk6 : Keep (fun x => x = u0) W5 ((((W5.setCell ⟨u0, 0, none⟩ (.int .i64 4)).setCell ⟨u0, 3, none⟩ (.int .u32 (addU m.number on_))).setCell ⟨u0, 4, none⟩ (.int .i64 flags)).setCell ⟨u0, 5, none⟩ (.slice A data.length c)).drew := (((((Keep.refl (fun x => x = u0) W5).setCell (p := ⟨u0, 0, none⟩) (fun _ => rfl) (.int .i64 4)).setCell (p := ⟨u0, 3, none⟩) (fun _ => rfl) (.int .u32 (addU m.number on_))).setCell (p := ⟨u0, 4, none⟩) (fun _ => rfl) (.int .i64 flags)).setCell (p := ⟨u0, 5, none⟩) (fun _ => rfl) (.slice A data.length c)).drew
    go_upto_region 23 with fail
    clear huc huf huc0 huf0 hbH hOd
    rw [addU_wrap]
    generalize ((((W5.setCell ⟨u0, 0, none⟩ (.int .i64 4)).setCell ⟨u0, 3, none⟩ (.int .u32 (addU m.number on_))).setCell ⟨u0, 4, none⟩ (.int .i64 flags)).setCell ⟨u0, 5, none⟩ (.slice A data.length c)).drew = W6 at *
    have hO6 := hO5.keep hk6 hou
    have hown6 := ownsRow_keep hown5 hk6 (fun x hx e => by simp [Value.ownBlock] at hx; omega)
    have hb6 := hb5.trans (hk6.below hs5 (fun x e => e ▸ hwu))
    have hr6 := hr5.below (hk6.below hBr5 (fun x e => by subst e; omega))
    have huc := hU6.cell
    have hoc := hO6.cell
    have hs6 := hb6.size
    go_wp2_with fail
    refine (l13frame_at 4 m.p.code ss ((addU m.number on_)) flags data A data.length c Br W6 rfl hp.code hssr (addU_ok _ _) hr6 (by omega)).mono ?_
    rintro e W7 ⟨v7, rfl, hown7, hb7⟩
    obtain ⟨A7, c7, rfl⟩ := own_slice hown7
    have hO7 := hO6.below hb7 hO6.lt
    have hb8 := hb6.trans (hb7.mono hs6)
    clear hoc huc
    have hoc := hO7.cell
    have hel := encode_small (UnitM.mk 4 m.p.code ss (addU m.number on_) flags data)
    have Hb : Hid (r = some ((burstM (UnitM.mk 4 m.p.code ss (addU m.number on_) flags data).encode at_ word).getD (UnitM.mk 4 m.p.code ss (addU m.number on_) flags data).encode)) := Lib.hid (by rw [Hr.out]; rfl)
    clear Hr
    have hbu := burst_any A7 (UnitM.mk 4 m.p.code ss (addU m.number on_) flags data).encode.length c7 W7.heap.size (UnitM.mk 4 m.p.code ss (addU m.number on_) flags data).encode at_ word W7 (Reads.of_own hown7) (Nat.le_refl _) (by omega) ho.word
    generalize (UnitM.mk 4 m.p.code ss (addU m.number on_) flags data).encode = enc at *
    cases hbm : burstM enc at_ word with
    | none =>
      rw [hbm] at hbu
      have hrr : r = some enc := by rw [Hb.out, hbm]; rfl
      subst hrr
      clear Hb hbm
      go_wp2_with fail
      refine hbu.mono ?_
      rintro e W9 ⟨v9, rfl, hn9, hs9, hb9⟩
      have hown9 := own_below hown7 hb9
      have hb10 := hb8.trans (hb9.mono hb8.size)
      clear hs9 hn9
      go_wp2_with fail
      refine bodyPost_ret (v := .tuple #[.slice A7 enc.length c7, .bool true]) (by simp [results, Tryz.results19, go_sem]) rfl ?_
      first
        | exact ⟨_, rfl, own_base hown9 hs6, hb10⟩
        | exact ⟨_, rfl, (fun h => by cases h), (fun f hf => by injection hf with hf; subst hf; exact own_base hown9 hs6), hb10⟩
    | some x =>
      rw [hbm] at hbu
      have hrr : r = some x := by rw [Hb.out, hbm]; rfl
      subst hrr
      clear Hb hbm
      go_wp2_with fail
      refine hbu.mono ?_
      rintro e W9 ⟨v9, rfl, hn9, hs9, hb9⟩
      have hown9 := hs9 x rfl
      have hb10 := hb8.trans (hb9.mono hb8.size)
      have hs10 := hb8.size
      obtain ⟨A9, c9, rfl⟩ := own_slice hown9
      clear hs9 hn9
      go_wp2_with fail
      refine bodyPost_ret (v := .tuple #[.slice A9 x.length c9, .bool true]) (by simp [results, Tryz.results19, go_sem]) rfl ?_
      first
        | exact ⟨_, rfl, own_base hown9 hs10, hb10⟩
        | exact ⟨_, rfl, (fun h => by cases h), (fun f hf => by injection hf with hf; subst hf; exact own_base hown9 hs10), hb10⟩
  by_cases k6 : kind = 6
  · subst k6
    have hrr : r = some data := by rw [Hr.out]; rfl
    subst hrr
    clear Hr
    have hoc := hO5.cell
    have hoA := (hO5.alloc (.cells #[] 5)).cell
    obtain ⟨i0, hi0, hz0, hz1, hz2⟩ := info_parts byte_info
    go_wp2_with (at_builtin; refine wpList_append_any _ rfl (.tmp 96) (.tmp 98) _ rfl W5.heap.size 5 i0 _ 1 1 Tryz.underlying22 hi0 hz0 hz1 hz2 rfl (by omega) (.slice (some ⟨W5.heap.size, 0, none⟩) 0 0) 0 [] rfl (World.ownsRow_made W5 #[] 0 (Nat.le_refl _) (by unfold maxLen; omega) rfl) Br A data.length c (u8c data) rfl (hr5.alloc hBr5 _) (u8c_one data) (by unfold maxLen; omega) (by omega) (by simp) ?_; intro v1 w1 hown1 hg1 hat1; rw [Nat.zero_add, List.nil_append] at hown1; obtain ⟨A1, c1, rfl⟩ := own_slice hown1)
    have hbz := (hb5.alloc hs5 (.cells #[] 5)).grown hg1 (by simp; omega) (fun k hk => by simp [Value.ownBlock] at hk; omega)
    refine bodyPost_ret (v := .tuple #[.slice A1 data.length c1, .bool true]) (by simp [results, Tryz.results19, go_sem]) rfl ?_
    first
      | exact ⟨_, rfl, own_base hown1 hs5, hbz⟩
      | exact ⟨_, rfl, (fun h => by cases h), (fun f hf => by injection hf with hf; subst hf; exact own_base hown1 hs5), hbz⟩
  have hrr : r = none := by rw [Hr.out, if_neg k6, if_neg k1, if_neg k2, if_neg k3, if_neg k4, if_neg k5, if_neg k7]
  subst hrr
  have g1 : (kind == 1) = false := by simpa using k1
  have g2 : (kind == 2) = false := by simpa using k2
  have g3 : (kind == 3) = false := by simpa using k3
  have g4 : (kind == 4) = false := by simpa using k4
  have g5 : (kind == 5) = false := by simpa using k5
  have g6 : (kind == 6) = false := by simpa using k6
  have g7 : (kind == 7) = false := by simpa using k7
  clear k1 k2 k3 k4 k5 k6 k7 Hr
  have hoc := hO5.cell
  go_wp2_with fail
  refine bodyPost_ret (v := .tuple #[.slice none 0 0, .bool false]) (by simp [results, Tryz.results19, go_sem]) rfl ?_
  first
    | exact ⟨_, rfl, rfl, hb5⟩
    | exact ⟨_, rfl, (fun _ => rfl), (fun f hf => by cases hf), hb5⟩
end Go.Proofs.YtlldgfejcjnpkaaGreat
