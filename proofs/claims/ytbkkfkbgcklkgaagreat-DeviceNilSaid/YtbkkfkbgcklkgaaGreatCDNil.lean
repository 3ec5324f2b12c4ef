/- parapetlaw13.DeviceNil. -/
import Derived.Test.YtbkkfkbgcklkgaaGreatBase13
namespace Go.Proofs.YtbkkfkbgcklkgaaGreat
open Go.RowKit
set_option maxHeartbeats 10000000
set_option maxRecDepth 100000

theorem wpList_append_wantD {P : Program} (w : World) {ops : Array Oper} {rest : List Oper} {o : Oper} {a : Act} {Q : Exit → Act → World → Prop} (hgd : Region.wanted o (yielded ops a.tmps) = true) (s x : Operand) (t : TypeId)
    (ho : o.op = .call { callee := .builtin .append, args := #[s, x], argTypes := #[t, t] })
    (base : Nat) (e : TypeId) (i : TypeInfo) (z : Value) (size bytes : Nat) (ht : P.underlying t = some (.slice e)) (hi : P.info? e = some i) (hz : i.zero = some z)
    (hsize : i.size = size) (hby : i.bytes = bytes) (hzs : z.cells.size = size) (hsz : 0 < size)
    (v : Value) (n : Nat) (xs : List Value) (hs : a.eval s = v) (hown : w.ownsRow base e size v n xs)
    (B : Nat) (A : Option Addr) (m c : Nat) (news : List Value) (hx : a.eval x = .slice A m c) (hr : Reads w B size A m news) (h1 : ∀ u ∈ news, u.oneCell' = true)
    (h63 : n + m ≤ maxLen) (hbytes : (n + m) * bytes ≤ 140737488355328) (hbase : base ≤ w.heap.size)
    (h : ∀ v' w', w'.ownsRow base e size v' (n + m) (xs ++ news) → w.grownBy w' v.ownBlock → (v'.ownBlock = v.ownBlock ∨ v'.ownBlock = some w.heap.size) → wpList P ops Q rest (a.put o.dst v') w') : wpList P ops Q (o :: rest) a w :=
  BigFrame.wpList_want hgd fun _ hK => wp_append_any w s x t ho base e i z size bytes ht hi hz hsize hby hzs hsz v n xs hs hown B A m c news hx hr h1 h63 hbytes hbase fun v' w' h2 h3 h4 => hK _ _ (h v' w' h2 h3 h4)
theorem deviceNil_law (p : ParM) (A : Option Addr) (n c : Nat) (l : List UInt8) (x : Int) (w : World) (hp : p.Ok) (hr : Reads w w.heap.size 1 A n (u8c l)) (hn : n ≤ 140737488351232) :
    Calls Tryz.prog 10 #[parVal p, .slice A n c, .int .i64 x] w fun e w' => e = .returned (.bool true) ∧ Below w.heap.size w w' := by
  obtain ⟨i0, hi0, hz0, hz1, hz2⟩ := info_parts byte_info
  have hlawful := fun w => r9lawful_any p w hp
  have hnew := fun w => devNew_nil p 5 w
  obtain ⟨lw, Hlw⟩ : ∃ b, b = p.lawful := ⟨_, rfl⟩
  rw [← Hlw] at hlawful hnew
  obtain ⟨code, out, inn, watch, count⟩ := p
  clear Hlw
  unfold parVal at *
  simp only at *
  have hb0 : Below w.heap.size w (w.alloc (.cells #[.int .u32 code, .int .i64 out, .int .i64 inn, .int .i64 watch, .int .u32 count] 35)) := (Below.refl _ _).alloc (Nat.le_refl _) _
  have hP0 := Blk.new w 35 #[.int .u32 code, .int .i64 out, .int .i64 inn, .int .i64 watch, .int .u32 count]
  cases lw
  all_goals
    simp only [Bool.false_eq_true, if_false, if_true] at hnew
    go_enter Tryz.func10, Tryz.ntmps10
    go_wp2_with fail
    refine (lawAwakeD_any _).mono ?_
    rintro e w1 ⟨rfl, hb1⟩
    have hP1 := hP0.below hb1 hP0.lt
    have hb1' := hb0.trans (hb1.mono hb0.size)
    have hs1 := hb1'.size
    have hr1 := hr.below hb1'
    clear hb0 hP0
    go_wp2_with (at_builtin; refine wpList_append_wantD _ rfl (.tmp 19) (.tmp 20) _ rfl w1.heap.size 5 i0 _ 1 1 Tryz.underlying41 hi0 hz0 hz1 hz2 rfl (by omega) (.slice (some ⟨w1.heap.size, 0, none⟩) 0 0) 0 [] rfl (World.ownsRow_made w1 #[] 0 (Nat.le_refl _) (by unfold maxLen; omega) rfl) w.heap.size A n c (u8c l) rfl (hr1.alloc hs1 _) (u8c_one l) (by unfold maxLen; omega) (by omega) (by simp) ?_; intro v2 w2 hown2 hg2 hat2; rw [Nat.zero_add, List.nil_append] at hown2; obtain ⟨A2, c2, rfl⟩ := own_slice hown2)
    have hb12 := ((Below.refl w1.heap.size w1).alloc (Nat.le_refl _) (.cells #[] 5)).grown hg2 (by simp) (fun k hk => by simp [Value.ownBlock] at hk; omega)
    have hb2 := hb1'.trans (hb12.mono hs1)
    have hP2 := hP1.below hb12 hP1.lt
    refine (devReceive_nil _ _ _ _).mono ?_
    rintro e w3 ⟨rfl, rfl⟩
    clear hg2 hat2 hown2
    go_wp2_with fail
    refine (devLog_nil _).mono ?_
    rintro e w4 ⟨rfl, rfl⟩
    have hc := hP2.cell
    go_wp2_with fail
    refine (hnew _).mono ?_
    rintro e w5 ⟨rfl, hb5⟩
    have hP5 := hP2.below hb5 hP2.lt
    have hb5' := hb2.trans (hb5.mono hb2.size)
    clear hc hnew
    have hc := hP5.cell
    go_wp2_with fail
    refine (hlawful _).mono ?_
    rintro e w6 ⟨rfl, hb6⟩
    have hb6' := hb5'.trans (hb6.mono hb5'.size)
    have hs6 := hb6'.size
    have hr6 := hr.below hb6'
    clear hc
    go_wp2_with (at_builtin; refine wpList_append_wantD _ rfl (.tmp 64) (.tmp 65) _ rfl w6.heap.size 5 i0 _ 1 1 Tryz.underlying41 hi0 hz0 hz1 hz2 rfl (by omega) (.slice (some ⟨w6.heap.size, 0, none⟩) 0 0) 0 [] rfl (World.ownsRow_made w6 #[] 0 (Nat.le_refl _) (by unfold maxLen; omega) rfl) w.heap.size A n c (u8c l) rfl (hr6.alloc hs6 _) (u8c_one l) (by unfold maxLen; omega) (by omega) (by simp) ?_; intro v7 w7 hown7 hg7 hat7; rw [Nat.zero_add, List.nil_append] at hown7; obtain ⟨A7, c7, rfl⟩ := own_slice hown7)
    have hb7 := ((hb6'.alloc hs6 (.cells #[] 5)).grown hg7 (by simp; omega) (fun k hk => by simp [Value.ownBlock] at hk; omega))
    refine (devWrite_nil _ _ _ _ _).mono ?_
    rintro e w8 ⟨rfl, rfl⟩
    clear hg7 hat7 hown7
    go_wp2_with fail
    refine (devTick_nil _ _).mono ?_
    rintro e w9 ⟨rfl, rfl⟩
    go_wp2_with fail
    refine (devAck_nil _).mono ?_
    rintro e w10 ⟨rfl, rfl⟩
    go_wp2_with fail
    refine (devReset_nil _ _).mono ?_
    rintro e w11 ⟨rfl, rfl⟩
    go_wp2_with fail
    refine (devCode_nil _).mono ?_
    rintro e w12 ⟨rfl, rfl⟩
    go_wp2_with fail
    refine (devSee_nil _).mono ?_
    rintro e w13 ⟨rfl, hb13⟩
    have hb13' := hb7.trans (hb13.mono hb7.size)
    go_wp2_with fail
    refine (r13same_any ⟨0, 0, 0, 0, 0, 0, false, false, []⟩ none none 0 0 0 w13 Reads.none_ Reads.none_ (Nat.zero_le _)).mono ?_
    rintro e w14 ⟨rfl, hb14⟩
    have hb14' := hb13'.trans (hb14.mono hb13'.size)
    go_wp2_with fail
    go_ret
    exact ⟨rfl, hb14'⟩
end Go.Proofs.YtbkkfkbgcklkgaaGreat
