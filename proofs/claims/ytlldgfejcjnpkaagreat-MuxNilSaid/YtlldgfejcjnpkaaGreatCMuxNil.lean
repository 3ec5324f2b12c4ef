/- The walk of MuxNil. -/
import Derived.Test.YtlldgfejcjnpkaaGreatCMuxEq
set_option linter.unusedVariables false
namespace Go.Proofs.YtlldgfejcjnpkaaGreat
open Go.RowKit
set_option maxHeartbeats 10000000
set_option maxRecDepth 100000

theorem muxNil_law (A : Option Addr) (n c : Nat) (k code : Int) (l : List UInt8) (w : World) (hr : Reads w w.heap.size 1 A n (u8c l)) (hn : n ≤ 140737488351232) :
    Calls Tryz.prog 7 #[.slice A n c, .int .i64 k, .int .u32 code] w fun e w' => e = .returned (.bool true) ∧ Below w.heap.size w w' := by
  obtain ⟨i0, hi0, hz0, hzz1, hz2⟩ := info_parts byte_info
  go_enter Tryz.func7, Tryz.ntmps7
  go_wp2_with fail
  refine (lawAwakeM_any w).mono ?_
  rintro e w1 ⟨rfl, hb1⟩
  have hz1 := hb1.size
  go_wp2_with fail
  refine (made_any 7 w1 (by decide)).mono ?_
  rintro e w2 ⟨hb2, hh⟩
  rcases hh with ⟨h0, _⟩ | ⟨_, a1, ma1, b1, mb1, T1, rfl, hT1, hlo1⟩
  · exact absurd h0 (by decide)
  have hb2' := hb1.trans (hb2.mono hz1)
  have hr2 := hr.below hb2'
  clear hT1 hlo1 hb2 hb1
  go_wp2_with (at_builtin; refine wpList_append_any _ rfl (.tmp 23) (.tmp 24) _ rfl w2.heap.size 5 i0 _ 1 1 Tryz.underlying22 hi0 hz0 hzz1 hz2 rfl (by omega) (.slice (some ⟨w2.heap.size, 0, none⟩) 0 0) 0 [] rfl (World.ownsRow_made w2 #[] 0 (Nat.le_refl _) (by unfold maxLen; omega) rfl) w.heap.size A n c (u8c l) rfl (hr2.alloc hb2'.size _) (u8c_one l) (by unfold maxLen; omega) (by omega) (by simp) ?_; intro v9 w9 hown9 hg9 hat9; rw [Nat.zero_add, List.nil_append] at hown9)
  have hb9 := hb2'.trans ((((Below.refl w2.heap.size w2).alloc (Nat.le_refl _) (.cells #[] 5)).grown hg9 (by simp) (fun k hk => by simp [Value.ownBlock] at hk; omega)).mono hb2'.size)
  clear hown9 hg9 hat9 hr2 hb2'
  refine (muxReceive_nil v9 w9).mono ?_
  rintro e w3 ⟨rfl, rfl⟩
  go_wp2_with fail
  refine (muxAdd_nil _ _).mono ?_
  rintro e w4 ⟨rfl, rfl⟩
  go_wp2_with fail
  refine (muxNew_any w4.heap.size w4 (Nat.le_refl _)).mono ?_
  rintro e w5 ⟨x, rfl, _, hb5⟩
  have hb5' := hb9.trans (hb5.mono hb9.size)
  go_wp2_with fail
  refine (muxAdd_nildev x _).mono ?_
  rintro e w6 ⟨rfl, rfl⟩
  go_wp2_with fail
  refine (muxTick_nil k _).mono ?_
  rintro e w6 ⟨rfl, rfl⟩
  go_wp2_with fail
  refine (muxCodes_nil _).mono ?_
  rintro e w6 ⟨rfl, rfl⟩
  go_wp2_with fail
  refine (muxSeen_nil code _).mono ?_
  rintro e w6 ⟨rfl, rfl⟩
  go_wp2_with fail
  refine (muxLost_nil _).mono ?_
  rintro e w6 ⟨rfl, rfl⟩
  go_wp2_with fail
  refine (muxOn_nil _).mono ?_
  rintro e w6 ⟨rfl, rfl⟩
  go_wp2_with fail
  go_ret
  exact ⟨rfl, hb5'⟩
end Go.Proofs.YtlldgfejcjnpkaaGreat
