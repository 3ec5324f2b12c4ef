/- parapetlaw14.HostNil. -/
import Derived.Test.YtdiogamcjihejaaGreatAwake
namespace Go.Proofs.YtdiogamcjihejaaGreat
open Go.RowKit
set_option maxHeartbeats 10000000
set_option maxRecDepth 100000

theorem wpList_append_want {P : Program} (w : World) {ops : Array Oper} {rest : List Oper} {o : Oper} {a : Act} {Q : Exit → Act → World → Prop} (hgd : Region.wanted o (yielded ops a.tmps) = true) (s x : Operand) (t : TypeId)
    (ho : o.op = .call { callee := .builtin .append, args := #[s, x], argTypes := #[t, t] })
    (base : Nat) (e : TypeId) (i : TypeInfo) (z : Value) (size bytes : Nat) (ht : P.underlying t = some (.slice e)) (hi : P.info? e = some i) (hz : i.zero = some z)
    (hsize : i.size = size) (hby : i.bytes = bytes) (hzs : z.cells.size = size) (hsz : 0 < size)
    (v : Value) (n : Nat) (xs : List Value) (hs : a.eval s = v) (hown : w.ownsRow base e size v n xs)
    (B : Nat) (A : Option Addr) (m c : Nat) (news : List Value) (hx : a.eval x = .slice A m c) (hr : Reads w B size A m news) (h1 : ∀ u ∈ news, u.oneCell' = true)
    (h63 : n + m ≤ maxLen) (hbytes : (n + m) * bytes ≤ 140737488355328) (hbase : base ≤ w.heap.size)
    (h : ∀ v' w', w'.ownsRow base e size v' (n + m) (xs ++ news) → w.grownBy w' v.ownBlock → (v'.ownBlock = v.ownBlock ∨ v'.ownBlock = some w.heap.size) → wpList P ops Q rest (a.put o.dst v') w') : wpList P ops Q (o :: rest) a w :=
  BigFrame.wpList_want hgd fun _ hK => wp_append_any w s x t ho base e i z size bytes ht hi hz hsize hby hzs hsz v n xs hs hown B A m c news hx hr h1 h63 hbytes hbase fun v' w' h2 h3 h4 => hK _ _ (h v' w' h2 h3 h4)
theorem own_nilslice (w : World) (base : Nat) : w.ownsRow base 5 1 (.slice none 0 0) 0 (u8c []) := World.ownsRow_nil _ _ _ _
theorem hostNil_law (p : ParM) (A : Option Addr) (n c : Nat) (l : List UInt8) (x : Int) (w : World) (hp : p.Ok) (hr : Reads w w.heap.size 1 A n (u8c l)) (hn : n ≤ 140737488351232) :
    Calls Tryz.prog 10 #[parVal p, .slice A n c, .int .i64 x] w fun e w' => e = .returned (.bool true) ∧ Below w.heap.size w w' := by
  obtain ⟨i0, hi0, hz0, hz1, hz2⟩ := info_parts byte_info
  have hlawful := fun w => r9lawful_any p w hp
  have hbad := fun w => hostNew_bad p w
  have hgood := fun w => hostNew_any p w
  obtain ⟨lw, Hlw⟩ : ∃ b, b = p.lawful := ⟨_, rfl⟩
  rw [← Hlw] at hlawful hbad hgood
  obtain ⟨code, out, inn, watch, count⟩ := p
  generalize HostM.new ⟨code, out, inn, watch, count⟩ = hm at *
  clear Hlw
  unfold parVal at *
  simp only at *
  have hb0 : Below w.heap.size w (w.alloc (.cells #[.int .u32 code, .int .i64 out, .int .i64 inn, .int .i64 watch, .int .u32 count] 30)) := (Below.refl _ _).alloc (Nat.le_refl _) _
  have hP0 := Blk.new w 30 #[.int .u32 code, .int .i64 out, .int .i64 inn, .int .i64 watch, .int .u32 count]
  go_enter Tryz.func10, Tryz.ntmps10
  go_wp2_with fail
  refine (lawAwake_any _).mono ?_
  rintro e w1 ⟨rfl, hb1⟩
  have hP1 := hP0.below hb1 hP0.lt
  have hb1' := hb0.trans (hb1.mono hb0.size)
  clear hb0 hP0
  go_wp2_with fail
  refine (hostSend_nil _).mono ?_
  rintro e w2 ⟨rfl, rfl⟩
  go_wp2_with fail
  refine (hostLog_nil _).mono ?_
  rintro e w2' ⟨rfl, rfl⟩
  have hc := hP1.cell
  go_wp2_with fail
  cases lw with
  | false =>
    refine (hbad w2' rfl).mono ?_
    rintro e w3 ⟨rfl, hb3⟩
    have hP3 := hP1.below hb3 hP1.lt
    have hb3' := hb1'.trans (hb3.mono hb1'.size)
    clear hc hbad hgood
    have hc := hP3.cell
    go_wp2_with fail
    refine (hlawful _).mono ?_
    rintro e w4 ⟨rfl, hb4⟩
    have hb4' := hb3'.trans (hb4.mono hb3'.size)
    have hrr := hr.below hb4'
    have hs4 := hb4'.size
    clear hc
    go_wp2_with (at_builtin; refine wpList_append_want _ rfl (.tmp 52) (.tmp 53) _ rfl w4.heap.size 5 i0 _ 1 1 Tryz.underlying22 hi0 hz0 hz1 hz2 rfl (by omega) (.slice (some ⟨w4.heap.size, 0, none⟩) 0 0) 0 [] rfl (World.ownsRow_made w4 #[] 0 (Nat.le_refl _) (by unfold maxLen; omega) rfl) w.heap.size A n c (u8c l) rfl (hrr.alloc hs4 _) (u8c_one l) (by unfold maxLen; omega) (by omega) (by simp) ?_; intro v5 w5 hown5 hg5 hat5; rw [Nat.zero_add, List.nil_append] at hown5; obtain ⟨A5, c5, rfl⟩ := own_slice hown5)
    have hb5 := ((hb4'.alloc hs4 (.cells #[] 5)).grown hg5 (by simp; omega) (fun k hk => by simp [Value.ownBlock] at hk; omega))
    have hs5 := hb5.size
    have hr5 := hr.below hb5
    refine (hostReceive_nil _ _ _ _).mono ?_
    rintro e w6 ⟨rfl, rfl⟩
    clear hg5 hat5 hown5
    go_wp2_with (at_builtin; refine wpList_append_want _ rfl (.tmp 68) (.tmp 69) _ rfl w6.heap.size 5 i0 _ 1 1 Tryz.underlying22 hi0 hz0 hz1 hz2 rfl (by omega) (.slice (some ⟨w6.heap.size, 0, none⟩) 0 0) 0 [] rfl (World.ownsRow_made w6 #[] 0 (Nat.le_refl _) (by unfold maxLen; omega) rfl) w.heap.size A n c (u8c l) rfl (hr5.alloc hs5 _) (u8c_one l) (by unfold maxLen; omega) (by omega) (by simp) ?_; intro v7 w7 hown7 hg7 hat7; rw [Nat.zero_add, List.nil_append] at hown7; obtain ⟨A7, c7, rfl⟩ := own_slice hown7)
    have hb7 := ((hb5.alloc hs5 (.cells #[] 5)).grown hg7 (by simp; omega) (fun k hk => by simp [Value.ownBlock] at hk; omega))
    refine (hostWrite_nil _ _ _ _ _).mono ?_
    rintro e w8 ⟨rfl, rfl⟩
    clear hg7 hat7 hown7
    go_wp2_with fail
    refine (hostTick_nil _ _).mono ?_
    rintro e w9 ⟨rfl, rfl⟩
    go_wp2_with fail
    refine (hostAck_nil _).mono ?_
    rintro e w10 ⟨rfl, rfl⟩
    go_wp2_with fail
    refine (hostReset_nil _).mono ?_
    rintro e w11 ⟨rfl, rfl⟩
    go_wp2_with fail
    refine (hostCode_nil _).mono ?_
    rintro e w12 ⟨rfl, rfl⟩
    go_wp2_with fail
    refine (hostSee_nil _).mono ?_
    rintro e w13 ⟨rfl, hb13⟩
    have hb13' := hb7.trans (hb13.mono hb7.size)
    go_wp2_with fail
    refine (r13same_any ⟨0, 0, 0, 0, 0, 0, false, false, []⟩ none none 0 0 0 w13 Reads.none_ Reads.none_ (Nat.zero_le _)).mono ?_
    rintro e w14 ⟨rfl, hb14⟩
    have hb14' := hb13'.trans (hb14.mono hb13'.size)
    go_wp2_with fail
    go_ret
    exact ⟨rfl, hb14'⟩
  | true =>
    refine (hgood w2' rfl).mono ?_
    rintro e w3 ⟨a, F, rfl, _, hb3⟩
    have hP3 := hP1.below hb3 hP1.lt
    have hb3' := hb1'.trans (hb3.mono hb1'.size)
    clear hc hbad hgood
    have hc := hP3.cell
    go_wp2_with fail
    refine (hlawful _).mono ?_
    rintro e w4 ⟨rfl, hb4⟩
    have hb4' := hb3'.trans (hb4.mono hb3'.size)
    have hrr := hr.below hb4'
    have hs4 := hb4'.size
    clear hc
    go_wp2_with (at_builtin; refine wpList_append_want _ rfl (.tmp 52) (.tmp 53) _ rfl w4.heap.size 5 i0 _ 1 1 Tryz.underlying22 hi0 hz0 hz1 hz2 rfl (by omega) (.slice (some ⟨w4.heap.size, 0, none⟩) 0 0) 0 [] rfl (World.ownsRow_made w4 #[] 0 (Nat.le_refl _) (by unfold maxLen; omega) rfl) w.heap.size A n c (u8c l) rfl (hrr.alloc hs4 _) (u8c_one l) (by unfold maxLen; omega) (by omega) (by simp) ?_; intro v5 w5 hown5 hg5 hat5; rw [Nat.zero_add, List.nil_append] at hown5; obtain ⟨A5, c5, rfl⟩ := own_slice hown5)
    have hb5 := ((hb4'.alloc hs4 (.cells #[] 5)).grown hg5 (by simp; omega) (fun k hk => by simp [Value.ownBlock] at hk; omega))
    have hs5 := hb5.size
    have hr5 := hr.below hb5
    refine (hostReceive_nil _ _ _ _).mono ?_
    rintro e w6 ⟨rfl, rfl⟩
    clear hg5 hat5 hown5
    go_wp2_with (at_builtin; refine wpList_append_want _ rfl (.tmp 68) (.tmp 69) _ rfl w6.heap.size 5 i0 _ 1 1 Tryz.underlying22 hi0 hz0 hz1 hz2 rfl (by omega) (.slice (some ⟨w6.heap.size, 0, none⟩) 0 0) 0 [] rfl (World.ownsRow_made w6 #[] 0 (Nat.le_refl _) (by unfold maxLen; omega) rfl) w.heap.size A n c (u8c l) rfl (hr5.alloc hs5 _) (u8c_one l) (by unfold maxLen; omega) (by omega) (by simp) ?_; intro v7 w7 hown7 hg7 hat7; rw [Nat.zero_add, List.nil_append] at hown7; obtain ⟨A7, c7, rfl⟩ := own_slice hown7)
    have hb7 := ((hb5.alloc hs5 (.cells #[] 5)).grown hg7 (by simp; omega) (fun k hk => by simp [Value.ownBlock] at hk; omega))
    refine (hostWrite_nil _ _ _ _ _).mono ?_
    rintro e w8 ⟨rfl, rfl⟩
    clear hg7 hat7 hown7
    go_wp2_with fail
    refine (hostTick_nil _ _).mono ?_
    rintro e w9 ⟨rfl, rfl⟩
    go_wp2_with fail
    refine (hostAck_nil _).mono ?_
    rintro e w10 ⟨rfl, rfl⟩
    go_wp2_with fail
    refine (hostReset_nil _).mono ?_
    rintro e w11 ⟨rfl, rfl⟩
    go_wp2_with fail
    refine (hostCode_nil _).mono ?_
    rintro e w12 ⟨rfl, rfl⟩
    go_wp2_with fail
    refine (hostSee_nil _).mono ?_
    rintro e w13 ⟨rfl, hb13⟩
    have hb13' := hb7.trans (hb13.mono hb7.size)
    go_wp2_with fail
    refine (r13same_any ⟨0, 0, 0, 0, 0, 0, false, false, []⟩ none none 0 0 0 w13 Reads.none_ Reads.none_ (Nat.zero_le _)).mono ?_
    rintro e w14 ⟨rfl, hb14⟩
    have hb14' := hb13'.trans (hb14.mono hb13'.size)
    go_wp2_with fail
    go_ret
    exact ⟨rfl, hb14'⟩
end Go.Proofs.YtdiogamcjihejaaGreat
