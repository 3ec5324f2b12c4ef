/- slices.Clone and slices.Equal of codes; the reference's Codes. -/
import Derived.Test.YtialafoofjgchaaRefLogB
import Derived.Test.YtialafoofjgchaaCodes
namespace Go.Proofs.Ytialafoofjgchaa
open Go.RowKit
set_option maxHeartbeats 600000
set_option maxRecDepth 100000

theorem cloneErrno_info : (Try.prog.info? 26).map (fun i => (i.zero, i.size, i.bytes)) = some (some (.int .i64 0), 1, 8) := by kernel_rfl
theorem cloneErrno_any (A : Option Addr) (n c : Nat) (xs : List Value) (w : World) (hA : A = none → c = 0) (hr : Reads w w.heap.size 1 A n xs) (h1 : ∀ u ∈ xs, u.oneCell' = true) (hn : n ≤ 1000000) :
    Calls Try.prog 16 #[.slice A n c] w fun e w' => ∃ v, e = .returned v ∧ w'.ownsRow w.heap.size 26 1 v n xs ∧ Below w.heap.size w w' := by
  obtain ⟨i0, hi0, hz0, hz1, hz2⟩ := info_parts cloneErrno_info
  cases A with
  | none =>
    obtain rfl := hA rfl
    have hn0 : n = 0 := by
      rcases Nat.eq_zero_or_pos n with h | h
      · exact h
      · obtain ⟨ad, h, _⟩ := hr.2 h; cases h
    subst hn0
    have hx : xs = [] := List.eq_nil_of_length_eq_zero (by simpa using hr.1)
    subst hx
    have he := fun (W : World) (a : Option Addr) (n c n' c' : Nat) => Lib.run_eql_slice_nil (P := Try.prog) W 35 26 a n c n' c' Try.underlying35
    go_enter Try.func16, Try.ntmps16
    go_wp2_with fail
    go_ret
    exact ⟨_, rfl, World.ownsRow_nil _ _ _ _, Below.refl _ _⟩
  | some ad =>
    have he := fun (W : World) (a : Option Addr) (n c n' c' : Nat) => Lib.run_eql_slice_nil (P := Try.prog) W 35 26 a n c n' c' Try.underlying35
    go_enter Try.func16, Try.ntmps16
    go_wp2_with (at_builtin; refine wpList_append_any _ rfl (.tmp 5) (.tmp 6) _ rfl w.heap.size 26 i0 _ 1 8 Try.underlying35 hi0 hz0 hz1 hz2 rfl (by omega) (.slice (some ⟨w.heap.size, 0, none⟩) 0 0) 0 [] rfl (World.ownsRow_made w #[] 0 (Nat.le_refl _) (by unfold maxLen; omega) rfl) w.heap.size (some ad) n c xs rfl (hr.alloc (Nat.le_refl _) _) h1 (by unfold maxLen; omega) (by omega) (by simp) ?_; intro v1 w1 hown1 hg1 hat1)
    go_ret
    exact ⟨_, rfl, by simpa using hown1, ((Below.refl _ _).alloc (Nat.le_refl _) _).grown hg1 (by simp) (fun k hk => by simp [Value.ownBlock] at hk; omega)⟩

theorem reads_int {w : World} {B : Nat} {A : Option Addr} {n : Nat} {l : List Int} (h : Reads w B 1 A n (l.map (Value.int .i64))) {k : Nat} (hk : k < n) {r : Int} (hr : l[k]? = some r) : ∃ ad, A = some ad ∧ w.cell? (ad.add k) = some (.int .i64 r) := by
  obtain ⟨ad, u, h1, _, h3, h4⟩ := h.at_ hk
  refine ⟨ad, h1, ?_⟩
  rw [h4, ← h3, List.getElem?_map, hr]
  rfl
theorem equalErrno_any (A1 A2 : Option Addr) (n c1 c2 B : Nat) (l : List Int) (w : World) (h1 : Reads w B 1 A1 n (l.map (Value.int .i64))) (h2 : Reads w B 1 A2 n (l.map (Value.int .i64))) (hn : n < 1073741823) :
    Calls Try.prog 18 #[.slice A1 n c1, .slice A2 n c2] w fun e w' => e = .returned (.bool true) ∧ ∃ k, w' = w.drewN k := by
  have hl : l.length = n := by have := h1.1; simpa using this
  have Hl := Lib.hid hl
  clear hl
  go_enter Try.func18, Try.ntmps18
  go_wp2_with fail
  go_loopw [13] (fun v13 wr => ∃ k q : Nat, k ≤ n ∧ v13 = .int .i64 k ∧ wr = w.drewN q) (fun v13 _ => n - (intOf v13).toNat)
  case atStart => exact ⟨0, 0, Nat.zero_le _, rfl, rfl⟩
  case round =>
    obtain ⟨k, q, hk, rfl, rfl⟩ := hrel
    by_cases hlt : k < n
    · obtain ⟨r, hr⟩ : ∃ r, l[k]? = some r := ⟨_, List.getElem?_eq_getElem (by rw [Hl.out]; exact hlt)⟩
      obtain ⟨a1, rfl, p0⟩ := reads_int h1 hlt hr
      obtain ⟨a2, rfl, r0⟩ := reads_int h2 hlt hr
      clear h1 h2 hr
      go_wp2_with fail
      go_quiet (fail)
      go_wp2_with fail
      exact ⟨⟨k + 1, _, by omega, by go_num, rfl⟩, by simp [intOf]; omega⟩
    · go_wp2_with fail
      go_ret
      exact ⟨rfl, q, rfl⟩

theorem Reads.front {w : World} {B : Nat} {A : Option Addr} {n : Nat} {xs : List Value} (h : Reads w B 1 A n xs) {p : Nat} (hp : p ≤ n) : Reads w B 1 A p (xs.take p) := by
  refine ⟨by have := h.1; rw [List.length_take]; omega, fun hn => ?_⟩
  obtain ⟨ad, e, hb, hc⟩ := h.2 (by omega)
  exact ⟨ad, e, hb, fun j u hu => hc j u (by
    rcases Nat.lt_or_ge j p with hj | hj
    · rwa [List.getElem?_take_of_lt hj] at hu
    · rw [List.getElem?_eq_none (by rw [List.length_take]; omega)] at hu; cases hu)⟩
theorem ints_one (_f : Nat) (l : List Int) : ∀ u ∈ l.map (Value.int .i64), u.oneCell' = true := by
  intro u hu
  obtain ⟨x, _, rfl⟩ := List.mem_map.1 hu
  rfl
/-- The code is put in its place. -/
theorem codes_insert {ks : List Int} {L : List Rec} {r : Rec} {p : Nat} (h : IsCodes ks L) (hp : p ≤ ks.length) (h1 : ∀ j (hj : j < ks.length), j < p → ks[j] < r.code) (h2 : ∀ j (hj : j < ks.length), p ≤ j → r.code < ks[j]) :
    IsCodes (ks.take p ++ [r.code] ++ ks.drop p) (L ++ [r]) := by
  refine ⟨?_, fun c => ?_⟩
  · rw [List.append_assoc, List.pairwise_append]
    refine ⟨h.1.sublist (List.take_sublist _ _), ?_, ?_⟩
    · rw [List.singleton_append, List.pairwise_cons]
      refine ⟨fun x hx => ?_, h.1.sublist (List.drop_sublist _ _)⟩
      obtain ⟨j, hj, rfl⟩ := List.getElem_of_mem hx
      rw [List.getElem_drop]
      exact h2 _ _ (by omega)
    · intro x hx y hy
      obtain ⟨j, hj, rfl⟩ := List.getElem_of_mem hx
      rw [List.getElem_take]
      have hj' : j < p := by rw [List.length_take] at hj; omega
      have hx1 := h1 j (by rw [List.length_take] at hj; omega) hj'
      rcases List.mem_append.1 hy with hy | hy
      · simp only [List.mem_singleton] at hy
        omega
      · obtain ⟨i, hi, rfl⟩ := List.getElem_of_mem hy
        rw [List.getElem_drop]
        have := h2 (p + i) (by rw [List.length_drop] at hi; omega) (by omega)
        omega
  · rw [cnt_snoc, List.append_assoc, List.mem_append, List.mem_append]
    have hm : c ∈ ks ↔ c ∈ ks.take p ∨ c ∈ ks.drop p := by rw [← List.mem_append, List.take_append_drop]
    have := h.2 c
    by_cases e : r.code = c
    · rw [if_pos e]; constructor
      · intro _; omega
      · intro _; exact .inr (.inl (by simp [e]))
    · rw [if_neg e, Nat.add_zero, ← this, hm]
      have : c ∉ [r.code] := by simp; exact fun x => e x.symm
      simp [this]
theorem codes_again {ks : List Int} {L : List Rec} {r : Rec} (h : IsCodes ks L) (hm : r.code ∈ ks) : IsCodes ks (L ++ [r]) := by
  refine ⟨h.1, fun c => ?_⟩
  rw [cnt_snoc, h.2 c]
  by_cases e : r.code = c
  · subst e
    have := (h.2 _).1 hm
    rw [if_pos rfl]; omega
  · rw [if_neg e, Nat.add_zero]
theorem codes_length {ks : List Int} {L : List Rec} (h : IsCodes ks L) : ks.length ≤ L.length := by
  have := nodup_le ks (L.map Rec.code) (h.1.imp (fun h => by omega)) (fun c hc => cnt_pos.1 ((h.2 c).1 hc))
  simpa using this
theorem codes_unique {ks js : List Int} {L : List Rec} (h : IsCodes ks L) (h' : IsCodes js L) : ks = js :=
  List.Perm.eq_of_pairwise (fun a b _ _ h1 h2 => by omega) (h.1.imp (fun h => Int.le_of_lt h)) (h'.1.imp (fun h => Int.le_of_lt h)) ((List.perm_ext_iff_of_nodup (h.1.imp (fun h => by omega)) (h'.1.imp (fun h => by omega))).2 (fun c => (h.2 c).trans (h'.2 c).symm))

theorem codes_belowA {Wi W' : World} {z e : Obj} (hg : (((Wi.alloc z).alloc e).drew).grownBy W' (some Wi.heap.size)) : Below Wi.heap.size Wi W' :=
  (((((Below.refl Wi.heap.size Wi).alloc (Nat.le_refl _) z).alloc (by simp) e).drew).grown hg (by show _ ≤ ((Wi.alloc z).alloc e).heap.size; simp; omega) (fun k hk => by injection hk with hk; omega))
theorem codes_belowB {Wi W' : World} {z : Obj} (hg : ((Wi.alloc z).drew).grownBy W' (some Wi.heap.size)) : Below Wi.heap.size Wi W' :=
  ((((Below.refl Wi.heap.size Wi).alloc (Nat.le_refl _) z).drew).grown hg (by show _ ≤ (Wi.alloc z).heap.size; simp) (fun k hk => by injection hk with hk; omega))
theorem codes_belowC {Wi W' : World} {z e : Obj} (hg : (((Wi.alloc e).alloc z).drew).grownBy W' (some (Wi.heap.size + 1))) : Below Wi.heap.size Wi W' :=
  (((((Below.refl Wi.heap.size Wi).alloc (Nat.le_refl _) e).alloc (by simp) z).drew).grown hg (by show _ ≤ ((Wi.alloc e).alloc z).heap.size; simp; omega) (fun k hk => by injection hk with hk; omega))
theorem codes_elemA {Wi W' : World} {z : Obj} {t : TypeId} {cs : Array Value} (hg : (((Wi.alloc z).alloc (.cells cs t (0, 0))).drew).grownBy W' (some Wi.heap.size)) : Blk W' (Wi.heap.size + 1) t cs :=
  Blk.grown (Blk.drew (Blk.new' (Wi.alloc z) t cs (by simp))) hg (by simp)
theorem codes_elemC {Wi W' : World} {z : Obj} {t : TypeId} {cs : Array Value} (hg : (((Wi.alloc (.cells cs t (0, 0))).alloc z).drew).grownBy W' (some (Wi.heap.size + 1))) : Blk W' Wi.heap.size t cs :=
  Blk.grown (Blk.drew ((Blk.new Wi t cs).alloc z)) hg (by simp)
theorem own_madeC {Wi : World} {o : Obj} {base : Nat} {t : TypeId} (h : base ≤ Wi.heap.size) : ((Wi.alloc o).alloc (.cells #[] t)).drew.ownsRow base t 1 (.slice (some ⟨Wi.heap.size + 1, 0, none⟩) 0 0) 0 [] := by
  have e : (Wi.alloc o).heap.size = Wi.heap.size + 1 := by simp
  exact e ▸ (World.ownsRow_made (base := base) (e := t) (size := 1) (Wi.alloc o) #[] 0 (by omega) (by unfold maxLen; omega) rfl).drew
theorem codes_new {B s : Nat} {o o0 : Option Nat} (h : o = o0 ∨ o = some s) (h0 : ∀ k, o0 = some k → B ≤ k) (hs : B ≤ s) : ∀ k, o = some k → B ≤ k := by
  intro k hk
  rcases h with h | h
  · exact h0 k (h ▸ hk)
  · rw [h] at hk; injection hk with hk; omega

theorem codes_rel {w Wi W57 W61 : World} {L : List Rec} {ks : List Int} {r : Rec} {i q p : Nat} {e : TypeId} {A57 A61 : Option Addr} {c57 c61 : Nat}
    (hiq : i + q = L.length) (hlt : i < L.length) (htk : L.take (i + 1) = L.take i ++ [r]) (hk : IsCodes ks (L.take i)) (hp : p ≤ ks.length)
    (h1 : ∀ j (hj : j < ks.length), j < p → ks[j] < r.code) (h2 : ∀ j (hj : j < ks.length), p ≤ j → r.code < ks[j])
    (hown : W61.ownsRow w.heap.size e 1 (.slice A61 (p + 1 + (ks.length - p)) c61) (p + 1 + (ks.length - p)) ([] ++ (ks.map (Value.int .i64)).take p ++ #[Value.int .i64 r.code].toList ++ (ks.map (Value.int .i64)).drop p))
    (hb : Below w.heap.size w Wi) (hb57 : Below Wi.heap.size Wi W57) (hg61 : W57.grownBy W61 (Value.slice A57 (p + 1) c57).ownBlock)
    {xs : List Value} (hown57 : W57.ownsRow w.heap.size e 1 (.slice A57 (p + 1) c57) (p + 1) xs) :
    ∃ (i' : Nat) (ks' : List Int), Value.int .i64 ((i : Int) + 1) = .int .i64 i' ∧ i' + (L.length - (i + 1)) = L.length ∧ Hid (IsCodes ks' (L.take i')) ∧ W61.ownsRow w.heap.size e 1 (.slice A61 (p + 1 + (ks.length - p)) c61) ks'.length (ks'.map (Value.int .i64)) ∧ Below w.heap.size w W61 := by
  refine ⟨i + 1, ks.take p ++ [r.code] ++ ks.drop p, by go_num, by omega, Lib.hid (by rw [htk]; exact codes_insert hk hp h1 h2), ?_, ?_⟩
  · have e1 : (ks.take p ++ [r.code] ++ ks.drop p).length = p + 1 + (ks.length - p) := by
      rw [List.length_append, List.length_append, List.length_take, List.length_drop, List.length_singleton]; omega
    have e2 : (ks.take p ++ [r.code] ++ ks.drop p).map (Value.int .i64) = [] ++ (ks.map (Value.int .i64)).take p ++ #[Value.int .i64 r.code].toList ++ (ks.map (Value.int .i64)).drop p := by
      simp [List.map_take, List.map_drop]
    rw [e1, e2]; exact hown
  · exact (hb.trans (hb57.mono hb.size)).grown hg61 (by have := hb.size; have := hb57.size; omega) (fun k hk => (hown57.lt k hk).1)

theorem refCodes_any (b off : Nat) (t : TypeId) (cs : Array Value) (L : List Rec) (F : Nat → Prop) (w : World) (h : LogIs w b t cs off L F) (hs : L.length < 1073741823) :
    Calls Try.prog 21 #[.pointer (some ⟨b, off, none⟩)] w fun e w' => ∃ v ks, e = .returned v ∧ IsCodes ks L ∧ w'.ownsRow w.heap.size 26 1 v ks.length (ks.map (Value.int .i64)) ∧ Below w.heap.size w w' := by
  obtain ⟨A, c, D⟩ := h
  have hlt0 := D.blk.lt
  go_enter Try.func21, Try.ntmps21
  go_wp2_with fail
  go_loopg [3, 4] L.length (fun q v3 v4 wr => ∃ (i : Nat) (ks : List Int), v4 = .int .i64 i ∧ i + q = L.length ∧ Hid (IsCodes ks (L.take i)) ∧ wr.ownsRow w.heap.size 26 1 v3 ks.length (ks.map (Value.int .i64)) ∧ Below w.heap.size w wr)
  case atStart => exact ⟨0, [], rfl, by omega, Lib.hid ⟨List.Pairwise.nil, fun c => by simp [cnt]⟩, World.ownsRow_nil _ _ _ _, Below.refl _ _⟩
  case round =>
    obtain ⟨i, ks, rfl, hiq, Hk, hown, hb⟩ := hrel
    obtain ⟨A3, c3, rfl⟩ := own_slice hown
    have D1 : LogAt wr b t cs off L F A c := ⟨D.blk.below hb hlt0, D.at_, ownsRow_keep (S := fun k => w.heap.size ≤ k) D.row ⟨hb.os, hb.tape, hb.output, hb.size, fun k _ h => hb.block k (by omega)⟩ (fun g hg => by have := (D.row.lt g hg).2; omega), D.own, D.ne⟩
    have hC : wr.cell? ⟨b, off, none⟩ = some (.slice A L.length c) := (D1.blk.cell off).trans D1.at_
    by_cases hlt : i < L.length
    · obtain ⟨g, hg, hcell⟩ := own_recs D1.row (by omega)
      obtain ⟨_, hc1, _, _⟩ := hcell i _ (List.getElem?_eq_getElem hlt)
      subst hg
      have htk := List.take_succ_eq_append_getElem hlt
      have Htk := Lib.hid htk
      generalize L[i] = r at hc1 Htk
      have Hiq := Lib.hid hiq
      have hkl := codes_length Hk.out
      rw [List.length_take] at hkl
      obtain ⟨i0, hi0, hz0, hz1, hz2⟩ := info_parts errno_info
      clear hcell htk hiq
      go_wp2_with fail
      obtain ⟨Wi, rfl⟩ : ∃ W : World, W = wr := ⟨_, rfl⟩
      go_loop [6] (fun v6 => ∃ p : Nat, p ≤ ks.length ∧ v6 = .int .i64 p ∧ Hid (∀ j (hj : j < ks.length), j < p → ks[j] < r.code)) (fun v6 => ks.length - (intOf v6).toNat)
      case atStart => exact ⟨0, Nat.zero_le _, rfl, Lib.hid (fun j _ h => absurd h (by omega))⟩
      case round =>
        obtain ⟨p, hp, rfl, Hp⟩ := hrel
        by_cases hpl : p < ks.length
        · obtain ⟨g3, rfl, hcell3⟩ := own_cell1 hown (by omega)
          have hc3 := hcell3 p hpl
          have Hpp := Lib.hid (show ks[p]? = some ks[p] from List.getElem?_eq_getElem hpl)
          clear hcell3
          rcases Int.lt_trichotomy ks[p] r.code with hlt1 | heq | hgt
          · have Hlt := Lib.hid hlt1
            have hd : decide (ks[p] < r.code) = true := by simpa using hlt1
            clear hlt1
            go_wp2_with fail
            go_round
            case rel => exact ⟨p + 1, by omega, by go_num, Lib.hid (fun j hj h => by
              rcases Nat.lt_or_ge j p with h' | h'
              · exact Hp.out j hj h'
              · have : j = p := by omega
                subst this
                exact Hlt.out)⟩
            case measure => simp [intOf]; omega
          · have hmem : r.code ∈ ks := heq ▸ List.getElem_mem hpl
            have Hmem := Lib.hid hmem
            have hd : decide (ks[p] < r.code) = false := by simp; omega
            have hd2 : (ks[p] == r.code) = true := by simpa using heq
            clear heq hmem
            go_wp2_with fail
            go_roundg (L.length - (i + 1))
            case measure => have := Hiq.out; omega
            case rel => have := Hiq.out; exact ⟨i + 1, ks, by go_num, by omega, Lib.hid (by rw [Htk.out]; exact codes_again Hk.out Hmem.out), hown, hb⟩
          · have Hgt := Lib.hid (show ∀ j (hj : j < ks.length), p ≤ j → r.code < ks[j] from fun j hj h => by
              rcases Nat.lt_or_ge p j with h' | h'
              · have := List.pairwise_iff_getElem.1 Hk.out.1 p j hpl hj h'
                omega
              · have : j = p := by omega
                subst this
                exact hgt)
            have hd : decide (ks[p] < r.code) = false := by simp; omega
            have hd2 : (ks[p] == r.code) = false := by simp; omega
            have hrd := Reads.of_own hown
            have hlc : ks.length ≤ c3 := by
              rcases hown.2 with ⟨h, h0⟩ | ⟨g, cap, cur, h, _, _, h1, _⟩
              · omega
              · injection h with _ _ h3; omega
            have hcut : Reads Wi Wi.heap.size 1 (if c3 = p then some ⟨g3, 0, none⟩ else some ⟨g3, p, none⟩) (ks.length - p) (List.drop p (ks.map (Value.int .i64))) := by
              have h := hrd.cut hp hlc
              rw [Nat.mul_one] at h
              simpa only [Option.map_some, addr_add0] using h
            have hpc : p ≤ c3 := by omega
            have hpcz : (p : Int) ≤ c3 := by omega
            have hp0 : 0 ≤ (p : Int) := by omega
            have hpl2 : (p : Int) ≤ ks.length := by omega
            clear hgt hown
            go_wp2_with fail
            go_region_law (first  | (refine step_append_any _ rfl (.tmp 50) (.tmp 53) _ rfl w.heap.size 26 i0 _ 1 8 Try.underlying35 hi0 hz0 hz1 hz2 rfl (by omega) (.slice (some ⟨Wi.heap.size, 0, none⟩) 0 0) 0 [] rfl ((World.ownsRow_made (base := w.heap.size) (e := 26) (size := 1) Wi #[] 0 hb.size (by unfold maxLen; omega) rfl).alloc _).drew Wi.heap.size _ p c3 _ rfl (((hrd.front hp).alloc (Nat.le_refl _) _).alloc (by simp) _).drew (fun u hu => ints_one 0 _ u (List.mem_of_mem_take hu)) (by unfold maxLen; omega) (by omega) (by have := hb.size; show _ ≤ ((Wi.alloc _).alloc _).heap.size; simp; omega) ?_; intro v54 W54 hown54 hg54 hat54; obtain ⟨A54, c54, rfl⟩ := own_slice hown54; rw [Nat.zero_add] at hown54 hat54; have hb54 : Below Wi.heap.size Wi W54 := codes_belowA hg54; have hE54 := codes_elemA hg54; have hn54 : ∀ k, (Value.slice A54 p c54).ownBlock = some k → Wi.heap.size ≤ k := codes_new hat54 (fun k hk => by have hk := Option.some.inj hk; (try simp at hk); omega) (by show _ ≤ ((Wi.alloc _).alloc _).heap.size; simp; omega)) | (refine step_append_any _ rfl (.tmp 50) (.tmp 53) _ rfl w.heap.size 26 i0 _ 1 8 Try.underlying35 hi0 hz0 hz1 hz2 rfl (by omega) (.slice (some ⟨Wi.heap.size, 0, none⟩) 0 0) 0 [] rfl (World.ownsRow_made (base := w.heap.size) (e := 26) (size := 1) Wi #[] 0 hb.size (by unfold maxLen; omega) rfl).drew Wi.heap.size _ p c3 _ rfl ((hrd.front hp).alloc (Nat.le_refl _) _).drew (fun u hu => ints_one 0 _ u (List.mem_of_mem_take hu)) (by unfold maxLen; omega) (by omega) (by have := hb.size; show _ ≤ (Wi.alloc _).heap.size; simp; try omega) ?_; intro v54 W54 hown54 hg54 hat54; obtain ⟨A54, c54, rfl⟩ := own_slice hown54; rw [Nat.zero_add] at hown54 hat54; have hb54 : Below Wi.heap.size Wi W54 := codes_belowB hg54;  have hn54 : ∀ k, (Value.slice A54 p c54).ownBlock = some k → Wi.heap.size ≤ k := codes_new hat54 (fun k hk => Nat.le_of_eq (Option.some.inj hk)) (by show _ ≤ (Wi.alloc _).heap.size; simp)) | (refine step_append_any _ rfl (.tmp 50) (.tmp 53) _ rfl w.heap.size 26 i0 _ 1 8 Try.underlying35 hi0 hz0 hz1 hz2 rfl (by omega) (.slice (some ⟨Wi.heap.size + 1, 0, none⟩) 0 0) 0 [] rfl (own_madeC hb.size) Wi.heap.size _ p c3 _ rfl (((hrd.front hp).alloc (Nat.le_refl _) _).alloc (by simp) _).drew (fun u hu => ints_one 0 _ u (List.mem_of_mem_take hu)) (by unfold maxLen; omega) (by omega) (by have := hb.size; show _ ≤ ((Wi.alloc _).alloc _).heap.size; simp; omega) ?_; intro v54 W54 hown54 hg54 hat54; obtain ⟨A54, c54, rfl⟩ := own_slice hown54; rw [Nat.zero_add] at hown54 hat54; have hb54 : Below Wi.heap.size Wi W54 := codes_belowC hg54; have hE54 := codes_elemC hg54; have hn54 : ∀ k, (Value.slice A54 p c54).ownBlock = some k → Wi.heap.size ≤ k := codes_new hat54 (fun k hk => by have hk := Option.some.inj hk; (try simp at hk); omega) (by show _ ≤ ((Wi.alloc _).alloc _).heap.size; simp; omega)) | (refine step_append_any _ rfl (.tmp 54) (.tmp 56) _ rfl w.heap.size 26 i0 _ 1 8 Try.underlying35 hi0 hz0 hz1 hz2 rfl (by omega) (.slice A54 p c54) p _ rfl hown54 (Wi.heap.size + 2) (some ⟨_, 0, none⟩) 1 1 _ rfl (Reads.of_blk hE54 (by omega) rfl) (by simp [Value.oneCell']) (by unfold maxLen; omega) (by omega) (by have := hb.size; have := hb54.size;  omega) ?_; intro v57 W57 hown57 hg57 hat57; obtain ⟨A57, c57, rfl⟩ := own_slice hown57; have hb57 : Below Wi.heap.size Wi W57 := hb54.grown hg57 hb54.size hn54) | (refine step_append_any _ rfl (.tmp 54) (.tmp 56) _ rfl w.heap.size 26 i0 _ 1 8 Try.underlying35 hi0 hz0 hz1 hz2 rfl (by omega) (.slice A54 p c54) p _ rfl (hown54.alloc _) (W54.heap.size + 1) (some ⟨_, 0, none⟩) 1 1 _ rfl (Reads.of_blk (Blk.new W54 _ _) (by omega) rfl) (by simp [Value.oneCell']) (by unfold maxLen; omega) (by omega) (by have := hb.size; have := hb54.size; show _ ≤ (W54.alloc _).heap.size; simp; omega) ?_; intro v57 W57 hown57 hg57 hat57; obtain ⟨A57, c57, rfl⟩ := own_slice hown57; have hb57 : Below Wi.heap.size Wi W57 := (hb54.alloc hb54.size _).grown hg57 (by have := hb54.size; simp; omega) hn54) | (refine step_append_any _ rfl (.tmp 57) (.tmp 60) _ rfl w.heap.size 26 i0 _ 1 8 Try.underlying35 hi0 hz0 hz1 hz2 rfl (by omega) (.slice A57 (p + 1) c57) (p + 1) _ rfl hown57 Wi.heap.size _ (ks.length - p) (c3 - p) _ rfl (hcut.below hb57) (fun u hu => ints_one 0 _ u (List.mem_of_mem_drop hu)) (by unfold maxLen; omega) (by omega) (by have := hb.size; have := hb57.size; omega) ?_; intro v61 W61 hown61 hg61 hat61; obtain ⟨A61, c61, rfl⟩ := own_slice hown61))
            all_goals go_wp2_with fail
            all_goals go_roundg (L.length - (i + 1))
            all_goals first | (have := Hiq.out; omega) | exact codes_rel Hiq.out hlt Htk.out Hk.out hp Hp.out Hgt.out hown61 hb hb57 hg61 hown57
        · have Hgt := Lib.hid (show ∀ j (hj : j < ks.length), p ≤ j → r.code < ks[j] from fun j hj h => by omega)
          have hrd := Reads.of_own hown
          have hlc : ks.length ≤ c3 := by
            rcases hown.2 with ⟨h, h0⟩ | ⟨g, cap, cur, h, _, _, h1, _⟩
            · injection h with _ _ h3; omega
            · injection h with _ _ h3; omega
          have hcut : Reads Wi Wi.heap.size 1 (if c3 = p then A3 else Option.map (fun x => x.add p) A3) (ks.length - p) (List.drop p (ks.map (Value.int .i64))) := by
            have h := hrd.cut hp hlc
            rwa [Nat.mul_one] at h
          have hpc : p ≤ c3 := by omega
          have hpcz : (p : Int) ≤ c3 := by omega
          have hp0 : 0 ≤ (p : Int) := by omega
          have hpl2 : (p : Int) ≤ ks.length := by omega
          clear hown
          go_wp2_with fail
          go_region_law (first  | (refine step_append_any _ rfl (.tmp 50) (.tmp 53) _ rfl w.heap.size 26 i0 _ 1 8 Try.underlying35 hi0 hz0 hz1 hz2 rfl (by omega) (.slice (some ⟨Wi.heap.size, 0, none⟩) 0 0) 0 [] rfl ((World.ownsRow_made (base := w.heap.size) (e := 26) (size := 1) Wi #[] 0 hb.size (by unfold maxLen; omega) rfl).alloc _).drew Wi.heap.size _ p c3 _ rfl (((hrd.front hp).alloc (Nat.le_refl _) _).alloc (by simp) _).drew (fun u hu => ints_one 0 _ u (List.mem_of_mem_take hu)) (by unfold maxLen; omega) (by omega) (by have := hb.size; show _ ≤ ((Wi.alloc _).alloc _).heap.size; simp; omega) ?_; intro v54 W54 hown54 hg54 hat54; obtain ⟨A54, c54, rfl⟩ := own_slice hown54; rw [Nat.zero_add] at hown54 hat54; have hb54 : Below Wi.heap.size Wi W54 := codes_belowA hg54; have hE54 := codes_elemA hg54; have hn54 : ∀ k, (Value.slice A54 p c54).ownBlock = some k → Wi.heap.size ≤ k := codes_new hat54 (fun k hk => by have hk := Option.some.inj hk; (try simp at hk); omega) (by show _ ≤ ((Wi.alloc _).alloc _).heap.size; simp; omega)) | (refine step_append_any _ rfl (.tmp 50) (.tmp 53) _ rfl w.heap.size 26 i0 _ 1 8 Try.underlying35 hi0 hz0 hz1 hz2 rfl (by omega) (.slice (some ⟨Wi.heap.size, 0, none⟩) 0 0) 0 [] rfl (World.ownsRow_made (base := w.heap.size) (e := 26) (size := 1) Wi #[] 0 hb.size (by unfold maxLen; omega) rfl).drew Wi.heap.size _ p c3 _ rfl ((hrd.front hp).alloc (Nat.le_refl _) _).drew (fun u hu => ints_one 0 _ u (List.mem_of_mem_take hu)) (by unfold maxLen; omega) (by omega) (by have := hb.size; show _ ≤ (Wi.alloc _).heap.size; simp; try omega) ?_; intro v54 W54 hown54 hg54 hat54; obtain ⟨A54, c54, rfl⟩ := own_slice hown54; rw [Nat.zero_add] at hown54 hat54; have hb54 : Below Wi.heap.size Wi W54 := codes_belowB hg54;  have hn54 : ∀ k, (Value.slice A54 p c54).ownBlock = some k → Wi.heap.size ≤ k := codes_new hat54 (fun k hk => Nat.le_of_eq (Option.some.inj hk)) (by show _ ≤ (Wi.alloc _).heap.size; simp)) | (refine step_append_any _ rfl (.tmp 50) (.tmp 53) _ rfl w.heap.size 26 i0 _ 1 8 Try.underlying35 hi0 hz0 hz1 hz2 rfl (by omega) (.slice (some ⟨Wi.heap.size + 1, 0, none⟩) 0 0) 0 [] rfl (own_madeC hb.size) Wi.heap.size _ p c3 _ rfl (((hrd.front hp).alloc (Nat.le_refl _) _).alloc (by simp) _).drew (fun u hu => ints_one 0 _ u (List.mem_of_mem_take hu)) (by unfold maxLen; omega) (by omega) (by have := hb.size; show _ ≤ ((Wi.alloc _).alloc _).heap.size; simp; omega) ?_; intro v54 W54 hown54 hg54 hat54; obtain ⟨A54, c54, rfl⟩ := own_slice hown54; rw [Nat.zero_add] at hown54 hat54; have hb54 : Below Wi.heap.size Wi W54 := codes_belowC hg54; have hE54 := codes_elemC hg54; have hn54 : ∀ k, (Value.slice A54 p c54).ownBlock = some k → Wi.heap.size ≤ k := codes_new hat54 (fun k hk => by have hk := Option.some.inj hk; (try simp at hk); omega) (by show _ ≤ ((Wi.alloc _).alloc _).heap.size; simp; omega)) | (refine step_append_any _ rfl (.tmp 54) (.tmp 56) _ rfl w.heap.size 26 i0 _ 1 8 Try.underlying35 hi0 hz0 hz1 hz2 rfl (by omega) (.slice A54 p c54) p _ rfl hown54 (Wi.heap.size + 2) (some ⟨_, 0, none⟩) 1 1 _ rfl (Reads.of_blk hE54 (by omega) rfl) (by simp [Value.oneCell']) (by unfold maxLen; omega) (by omega) (by have := hb.size; have := hb54.size;  omega) ?_; intro v57 W57 hown57 hg57 hat57; obtain ⟨A57, c57, rfl⟩ := own_slice hown57; have hb57 : Below Wi.heap.size Wi W57 := hb54.grown hg57 hb54.size hn54) | (refine step_append_any _ rfl (.tmp 54) (.tmp 56) _ rfl w.heap.size 26 i0 _ 1 8 Try.underlying35 hi0 hz0 hz1 hz2 rfl (by omega) (.slice A54 p c54) p _ rfl (hown54.alloc _) (W54.heap.size + 1) (some ⟨_, 0, none⟩) 1 1 _ rfl (Reads.of_blk (Blk.new W54 _ _) (by omega) rfl) (by simp [Value.oneCell']) (by unfold maxLen; omega) (by omega) (by have := hb.size; have := hb54.size; show _ ≤ (W54.alloc _).heap.size; simp; omega) ?_; intro v57 W57 hown57 hg57 hat57; obtain ⟨A57, c57, rfl⟩ := own_slice hown57; have hb57 : Below Wi.heap.size Wi W57 := (hb54.alloc hb54.size _).grown hg57 (by have := hb54.size; simp; omega) hn54) | (refine step_append_any _ rfl (.tmp 57) (.tmp 60) _ rfl w.heap.size 26 i0 _ 1 8 Try.underlying35 hi0 hz0 hz1 hz2 rfl (by omega) (.slice A57 (p + 1) c57) (p + 1) _ rfl hown57 Wi.heap.size _ (ks.length - p) (c3 - p) _ rfl (hcut.below hb57) (fun u hu => ints_one 0 _ u (List.mem_of_mem_drop hu)) (by unfold maxLen; omega) (by omega) (by have := hb.size; have := hb57.size; omega) ?_; intro v61 W61 hown61 hg61 hat61; obtain ⟨A61, c61, rfl⟩ := own_slice hown61))
          all_goals go_wp2_with fail
          all_goals go_roundg (L.length - (i + 1))
          all_goals first | (have := Hiq.out; omega) | exact codes_rel Hiq.out hlt Htk.out Hk.out hp Hp.out Hgt.out hown61 hb hb57 hg61 hown57
    · have hie : i = L.length := by omega
      have Hie := Lib.hid hie
      have hge : L.length ≤ i := by omega
      clear hie hiq
      go_wp2_with fail
      go_ret
      refine ⟨_, ks, rfl, ?_, hown, hb⟩
      have := Hk.out
      rwa [Hie.out, List.take_length] at this
end Go.Proofs.Ytialafoofjgchaa
