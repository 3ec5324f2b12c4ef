/- The base of the laws, part 20: contracts and plain lemmas, no statement. -/
import Derived.Test.YtbkkfkbgcklkgaaGreatBase19
/- device.New; a nil device. -/
namespace Go.Proofs.YtbkkfkbgcklkgaaGreat
open Go.RowKit
set_option maxHeartbeats 10000000
set_option maxRecDepth 100000

theorem devReceive_nil (A : Option Addr) (n c : Nat) (w : World) : Calls Tryz.prog 19 #[.pointer none, .slice A n c] w fun e w' => e = .returned (.tuple #[.slice none 0 0, .int .i64 1]) ∧ w' = w := by
  go_enter Tryz.func19, Tryz.ntmps19
  go_wp2_with fail
  refine bodyPost_ret (v := .tuple #[.slice none 0 0, .int .i64 1]) (by simp [results, Tryz.results19, go_sem]) rfl ⟨rfl, rfl⟩
theorem devLog_nil (w : World) : Calls Tryz.prog 35 #[.pointer none] w fun e w' => e = .returned (.tuple #[.slice none 0 0, .int .i64 0]) ∧ w' = w := by
  go_enter Tryz.func35, Tryz.ntmps35
  go_wp2_with fail
  refine bodyPost_ret (v := .tuple #[.slice none 0 0, .int .i64 0]) (by simp [results, Tryz.results35, go_sem]) rfl ⟨rfl, rfl⟩
theorem devWrite_nil (A : Option Addr) (n c : Nat) (h : Bool) (w : World) : Calls Tryz.prog 24 #[.pointer none, .slice A n c, .bool h] w fun e w' => e = .returned (.int .i64 1) ∧ w' = w := by
  go_enter Tryz.func24, Tryz.ntmps24
  go_wp2_with fail
  go_ret
  exact ⟨rfl, rfl⟩
theorem devTick_nil (n : Int) (w : World) : Calls Tryz.prog 37 #[.pointer none, .int .i64 n] w fun e w' => e = .returned (.int .i64 1) ∧ w' = w := by
  go_enter Tryz.func37, Tryz.ntmps37
  go_wp2_with fail
  go_ret
  exact ⟨rfl, rfl⟩
theorem devAck_nil (w : World) : Calls Tryz.prog 38 #[.pointer none] w fun e w' => e = .returned (.int .i64 1) ∧ w' = w := by
  go_enter Tryz.func38, Tryz.ntmps38
  go_wp2_with fail
  go_ret
  exact ⟨rfl, rfl⟩
theorem devReset_nil (n : Int) (w : World) : Calls Tryz.prog 31 #[.pointer none, .int .i64 n] w fun e w' => e = .returned (.int .i64 1) ∧ w' = w := by
  go_enter Tryz.func31, Tryz.ntmps31
  go_wp2_with fail
  go_ret
  exact ⟨rfl, rfl⟩
theorem devCode_nil (w : World) : Calls Tryz.prog 39 #[.pointer none] w fun e w' => e = .returned (.int .u32 0) ∧ w' = w := by
  go_enter Tryz.func39, Tryz.ntmps39
  go_wp2_with fail
  go_ret
  exact ⟨rfl, rfl⟩
theorem devSee_nil (w : World) : Calls Tryz.prog 21 #[.pointer none] w fun e w' => e = .returned (endVal ⟨0, 0, 0, 0, 0, 0, false, false, []⟩ (.slice none 0 0)) ∧ Below w.heap.size w w' := by
  go_enter Tryz.func21, Tryz.ntmps21
  go_wp2_with fail
  refine bodyPost_ret (v := endVal ⟨0, 0, 0, 0, 0, 0, false, false, []⟩ (.slice none 0 0)) (by simp [results, Tryz.results21, go_sem, endVal]) rfl ⟨rfl, ?_⟩
  exact (Below.refl _ _).alloc (Nat.le_refl _) _
theorem cellOpen_nil (mx : Int) (w : World) : Calls Tryz.prog 44 #[.pointer none, .int .u32 mx] w fun e w' => e = .returned (.tuple #[.pointer none, .int .i64 1]) ∧ w' = w := by
  go_enter Tryz.func44, Tryz.ntmps44
  go_wp2_with fail
  refine bodyPost_ret (v := .tuple #[.pointer none, .int .i64 1]) (by simp [results, Tryz.results44, go_sem]) rfl ⟨rfl, rfl⟩
/-- No memory. -/
theorem devNew_nil (p : ParM) (mx : Int) (w : World) : Calls Tryz.prog 15 #[parVal p, .pointer none, .int .u32 mx] w fun e w' => e = .returned (.tuple #[.pointer none, .int .i64 (if p.lawful then 1 else 90)]) ∧ Below w.heap.size w w' := by
  have hchk := paramCheck_any p
  unfold parVal at *
  cases hl : p.lawful with
  | false =>
    rw [hl] at hchk
    simp only [Bool.false_eq_true, if_false] at hchk ⊢
    go_enter Tryz.func15, Tryz.ntmps15
    go_wp2_with fail
    refine (hchk _).mono ?_
    rintro e w1 ⟨rfl, hb1⟩
    go_wp2_with fail
    refine bodyPost_ret (v := .tuple #[.pointer none, .int .i64 90]) (by simp [results, Tryz.results15, go_sem]) rfl ⟨rfl, ?_⟩
    exact ((Below.refl _ _).alloc (Nat.le_refl _) _).trans (hb1.mono (by simp))
  | true =>
    rw [hl] at hchk
    simp only [if_true] at hchk ⊢
    go_enter Tryz.func15, Tryz.ntmps15
    go_wp2_with fail
    refine (hchk _).mono ?_
    rintro e w1 ⟨rfl, hb1⟩
    go_wp2_with fail
    refine (cellOpen_nil mx _).mono ?_
    rintro e w2 ⟨rfl, rfl⟩
    go_wp2_with fail
    refine bodyPost_ret (v := .tuple #[.pointer none, .int .i64 1]) (by simp [results, Tryz.results15, go_sem]) rfl ⟨rfl, ?_⟩
    exact ((Below.refl _ _).alloc (Nat.le_refl _) _).trans (hb1.mono (by simp))
theorem parS {w : World} {e0 : Nat} {t : TypeId} {x0 x1 x2 x3 x4 : Value} (h : Blk w e0 t #[x0, x1, x2, x3, x4]) :
    w.cell? ⟨e0, 0, none⟩ = some x0 ∧ w.cell? ⟨e0, 1, none⟩ = some x1 ∧ w.cell? ⟨e0, 2, none⟩ = some x2 ∧ w.cell? ⟨e0, 3, none⟩ = some x3 ∧ w.cell? ⟨e0, 4, none⟩ = some x4 :=
  ⟨(h.cell 0).trans rfl, (h.cell 1).trans rfl, (h.cell 2).trans rfl, (h.cell 3).trans rfl, (h.cell 4).trans rfl⟩
/-- What New answers, over a memory. -/
def NewAns (B : Nat) (w : World) (mb : Nat) (FM : Nat → Prop) (r : MemM × Option DevM × Int) (e : Ending) (w' : World) : Prop :=
  Keep FM w w' ∧ match r.2.1 with
  | some d => r.2.2 = 0 ∧ ∃ a F, e = .returned (.tuple #[.pointer (some ⟨a, 0, none⟩), .int .i64 0]) ∧ DevIs B w' a mb d F ∧ ∀ x, F x → FM x ∨ w.heap.size ≤ x
  | none => e = .returned (.tuple #[.pointer none, .int .i64 r.2.2]) ∧ MemIs w' mb r.1 FM
theorem devNew_any (B mb : Nat) (p : ParM) (M : MemM) (FM : Nat → Prop) (mx : Int) (w : World) (hM : MemIs w mb M FM) (ho : M.off = false) (hlo : ∀ x, FM x → B ≤ x ∧ x < w.heap.size) (hB : B ≤ w.heap.size) (hmx : 0 ≤ mx ∧ mx < 4294967296) :
    Calls Tryz.prog 15 #[parVal p, .pointer (some ⟨mb, 0, none⟩), .int .u32 mx] w fun e w' => NewAns B w mb FM (DevM.new p M mx) e w' := by
  have hchk := paramCheck_any p
  unfold parVal at *
  cases hl : p.lawful with
  | false =>
    have e1 : DevM.new p M mx = (M, none, 90) := by unfold DevM.new; rw [hl]; rfl
    rw [e1]
    rw [hl] at hchk
    simp only [Bool.false_eq_true, if_false] at hchk
    unfold NewAns
    go_enter Tryz.func15, Tryz.ntmps15
    go_wp2_with fail
    refine (hchk _).mono ?_
    rintro e w1 ⟨rfl, hb1⟩
    have hb : Below w.heap.size w w1 := ((Below.refl _ _).alloc (Nat.le_refl _) _).trans (hb1.mono (by simp))
    go_wp2_with fail
    exact bodyPost_ret (v := .tuple #[.pointer none, .int .i64 90]) (by simp [results, Tryz.results15, go_sem]) rfl ⟨Keep.of_below hb, rfl, hM.below hb⟩
  | true =>
    have hop := fun W h => cellOpen_any mb M FM mx W h ho
    obtain ⟨q, Hq⟩ : ∃ q, Hid (q = DevM.new p M mx) := ⟨_, Lib.hid rfl⟩
    have hq : q = match openM M mx with
      | (m', some c, _) => (m', some { p, m := m', max := mx, cell := c, value := List.replicate p.inn.toNat 0 }, 0)
      | (m', none, e) => (m', none, e) := by rw [Hq.out]; unfold DevM.new; rw [hl]; rfl
    rw [← Hq.out]
    have Hqq := Lib.hid hq
    have hone := fun h => openM_none (m := M) (mx := mx) h
    clear Hq hq
    rw [hl] at hchk
    simp only [if_true] at hchk
    generalize openM M mx = r at *
    obtain ⟨m', ko, er⟩ := r
    unfold NewAns
    cases ko with
    | none =>
      have hne := hone rfl
      have ge : (er != 0) = true := by simpa using hne
      have hq := Hqq.out
      try simp only at hq
      subst hq
      clear hone
      go_enter Tryz.func15, Tryz.ntmps15
      go_wp2_with fail
      refine (hchk _).mono ?_
      rintro e w1 ⟨rfl, hb1⟩
      have hb : Below w.heap.size w w1 := ((Below.refl _ _).alloc (Nat.le_refl _) _).trans (hb1.mono (by simp))
      go_wp2_with fail
      refine (hop w1 (hM.below hb) (fun x hx => by have := hlo x hx; have := hb.size; omega) hmx).mono ?_
      rintro e w2 ⟨t2, rfl⟩
      go_wp2_with fail
      exact bodyPost_ret (v := .tuple #[.pointer none, .int .i64 er]) (by simp [results, Tryz.results15, go_sem]) rfl ⟨(Keep.of_below hb).andThen t2.keep (fun _ _ h => h), rfl, t2.is_⟩
    | some ko =>
      have hq := Hqq.out
      try simp only at hq
      subst hq
      clear hone
      go_enter Tryz.func15, Tryz.ntmps15
      go_wp2_with fail
      refine (hchk _).mono ?_
      rintro e w1 ⟨rfl, hb1⟩
      have hP := (Blk.new w 35 #[.int .u32 p.code, .int .i64 p.out, .int .i64 p.inn, .int .i64 p.watch, .int .u32 p.count]).below hb1 (by simp)
      have hb : Below w.heap.size w w1 := ((Below.refl _ _).alloc (Nat.le_refl _) _).trans (hb1.mono (by simp))
      go_wp2_with fail
      refine (hop w1 (hM.below hb) (fun x hx => by have := hlo x hx; have := hb.size; omega) hmx).mono ?_
      rintro e w2 ⟨t2, c2, rfl, _, hc2, hn2⟩
      have hs1 := hb.size
      have hP2 := (hP.keep t2.keep (fun hx => by have := hlo _ hx; omega)).drew
      have hM2 : MemIs w2.drew mb m' FM := t2.is_.drewN 1
      have hC2 : CellIs w2.drew c2 mb ko := hc2
      have hs2 : w1.heap.size ≤ w2.drew.heap.size := t2.keep.size
      have hn2' : w1.heap.size ≤ c2 ∧ c2 < w2.drew.heap.size := hn2
      have hk2 : Keep FM w w2.drew := ((Keep.of_below hb).andThen t2.keep (fun _ _ h => h)).drew
      clear hop hn2
      have hPl := hP2.lt
      go_wp2_with fail
      go_region_held3 (fun w' => w'.cell? ⟨w.heap.size, 0, none⟩ = some (.int .u32 p.code) ∧ w'.cell? ⟨w.heap.size, 1, none⟩ = some (.int .i64 p.out) ∧ w'.cell? ⟨w.heap.size, 2, none⟩ = some (.int .i64 p.inn) ∧ w'.cell? ⟨w.heap.size, 3, none⟩ = some (.int .i64 p.watch) ∧ w'.cell? ⟨w.heap.size, 4, none⟩ = some (.int .u32 p.count)) (with_reducible (first | exact parS hP2 | exact parS (hP2.alloc _))) (first
        | (go_at_call 45; refine (diagNew_any _).mono ?_; rintro e W ⟨g, rfl, hD, hbn⟩; replace hP2 := hP2.below hbn hPl))
      have hs3 : w2.drew.heap.size ≤ W.heap.size := hbn.size
      classical
      have hpre : DevPre B (W.alloc (.cells #[.int .u32 p.code, .int .i64 p.out, .int .i64 p.inn, .int .i64 p.watch, .int .u32 p.count, .pointer (some ⟨mb, 0, none⟩), .int .u32 mx, .pointer (some ⟨c2, 0, none⟩), .pointer none, .pointer none, .pointer (some ⟨g, 0, none⟩), .int .i64 0, .int .u32 0, .int .u32 0, .int .u32 0, .int .i64 0, .slice none 0 0, .bool false] 109)) W.heap.size mb p mx [] m' ko
          (fun x => if x = W.heap.size then some 0 else if x = c2 then some 6 else if w2.drew.heap.size ≤ x ∧ x < W.heap.size then some 3 else if FM x then some 5 else none) c2 g (.pointer none) (.pointer none) (.int .i64 0) (.int .u32 0) (.int .u32 0) (.int .u32 0) (.int .i64 0) (.slice none 0 0) (.bool false) := by
        have hkA : Keep (fun _ => False) W (W.alloc (.cells #[.int .u32 p.code, .int .i64 p.out, .int .i64 p.inn, .int .i64 p.watch, .int .u32 p.count, .pointer (some ⟨mb, 0, none⟩), .int .u32 mx, .pointer (some ⟨c2, 0, none⟩), .pointer none, .pointer none, .pointer (some ⟨g, 0, none⟩), .int .i64 0, .int .u32 0, .int .u32 0, .int .u32 0, .int .i64 0, .slice none 0 0, .bool false] 109)) := (Keep.refl _ W).alloc _
        refine {
          blk := Blk.new W _ _
          log := hD.keep hkA (fun _ _ h => h) (fun x hx => ?_)
          mem := (hM2.below hbn).keep hkA (fun _ _ h => h) (fun x hx => ?_)
          cell := (Blk.below hC2 hbn hn2'.2).alloc _
          ka := by show (if _ then _ else _) = _; rw [if_pos rfl]
          kc := by show (if _ then _ else _) = _; rw [if_neg (by omega), if_pos rfl]
          lo := fun x hx => ?_ }
        · show (if _ then _ else _) = _
          rw [if_neg (by omega), if_neg (by omega), if_pos hx]
        · have := hlo x hx
          show (if _ then _ else _) = _
          rw [if_neg (by omega), if_neg (by omega), if_neg (by omega), if_pos hx]
        · simp only [World.size_alloc]
          by_cases e0 : x = W.heap.size
          · omega
          · rw [if_neg e0] at hx
            by_cases e1 : x = c2
            · omega
            · rw [if_neg e1] at hx
              by_cases e2 : w2.drew.heap.size ≤ x ∧ x < W.heap.size
              · omega
              · rw [if_neg e2] at hx
                by_cases e3 : FM x
                · have := hlo x e3; omega
                · rw [if_neg e3] at hx; exact absurd rfl hx
      go_wp2_with fail
      refine (devFresh_any B W.heap.size mb p mx [] m' ko _ c2 g _ _ _ _ _ _ _ _ _ _ hl hpre).mono ?_
      rintro e W3 ⟨rfl, ⟨κ', d, v, val, h', hF'⟩, hk3⟩
      go_wp2_with fail
      have hs4 := hk3.size
      simp only [World.size_alloc] at hs4
      have hkW : Keep FM w W3 := (((hk2.andThen (S' := fun _ => False) (Keep.of_below hbn) (fun _ _ h => h.elim)).alloc _).andThen hk3 (fun x hx e => by have := hk2.size; omega))
      refine bodyPost_ret (v := .tuple #[.pointer (some ⟨W.heap.size, 0, none⟩), .int .i64 0]) (by simp [results, Tryz.results15, go_sem]) rfl ⟨hkW, trivial, W.heap.size, fun x => κ' x ≠ none, rfl, DevIs.of h' (fun _ h => h) h'.lo, fun x hx => ?_⟩
      rcases hF' x hx with hx | hx
      · by_cases e0 : x = W.heap.size
        · exact .inr (by omega)
        · rw [if_neg e0] at hx
          by_cases e1 : x = c2
          · exact .inr (by omega)
          · rw [if_neg e1] at hx
            by_cases e2 : w2.drew.heap.size ≤ x ∧ x < W.heap.size
            · exact .inr (by omega)
            · rw [if_neg e2] at hx
              by_cases e3 : FM x
              · exact .inl e3
              · rw [if_neg e3] at hx; exact absurd rfl hx
      · exact .inr (by have := hk2.size; simp only [World.size_alloc] at hx; omega)
end Go.Proofs.YtbkkfkbgcklkgaaGreat
/- The device's plain laws at the small set: a half-open session is given up at the fourth odd unit; a step that comes again changes nothing that can be seen. No program here. -/
namespace Go.Proofs.YtbkkfkbgcklkgaaGreat
namespace DevM
def small : ParM := ⟨7, 2, 1, 10, 9⟩
/-- A new device over a new memory of 16 bytes. -/
def first (max : Int) : DevM := { p := small, m := ⟨List.replicate 16 0, false, false, 0, 0⟩, max, cell := ⟨max, 0, false⟩, value := [0] }
theorem new_small (max : Int) (h : max ≠ 0) : new small ⟨List.replicate 16 0, false, false, 0, 0⟩ max = (⟨List.replicate 16 0, false, false, 0, 0⟩, some (first max), 0) := by
  have hl : (!small.lawful) = false := by decide
  have ho : openM ⟨List.replicate 16 0, false, false, 0, 0⟩ max = (⟨List.replicate 16 0, false, false, 0, 0⟩, some ⟨max, 0, false⟩, 0) := by
    unfold openM
    rw [if_neg (by simp [h])]
    rfl
  unfold new
  rw [hl, ho]
  rfl
/-- The unit of an op of the kinds 1 to 4, for this device. -/
def opUnit (d : DevM) (kind : Int) (odd : Bool) (sign : List UInt8) (data : List UInt8) : UnitM :=
  let s := if odd then d.session + 1 else d.session
  if kind = 1 then ⟨1, d.p.code, 0, 0, 0, sign⟩ else if kind = 2 then ⟨2, d.p.code, s, 0, 0, sign⟩ else if kind = 3 then ⟨3, d.p.code, s, 0, 0, []⟩ else ⟨4, d.p.code, s, d.number + 1, 0, data⟩
/-- A unit is received. -/
def got (d : DevM) (u : UnitM) : DevM × List UInt8 × Int :=
  let r := d.take u
  if r.2.2 = 0 ∨ r.2.2 = 70 then r else ({ r.1 with log := noteM r.1.log r.2.2 r.1.session r.1.number }, r.2.1, r.2.2)
/-- The units of one kind each, from 1 on. -/
def ups (d : DevM) : Nat → DevM
  | 0 => d
  | k + 1 => let g := d.ups k; (g.got (g.opUnit (k + 1) false small.sign [5, 6])).1
def odds_ (d : DevM) : Nat → DevM
  | 0 => d
  | k + 1 => let g := d.odds_ k; (g.got (g.opUnit 3 true small.sign [])).1
def asks (d : DevM) : Nat → DevM
  | 0 => d
  | k + 1 => let g := d.asks k; (g.got (g.opUnit 1 false small.sign [])).1
def givesUpB (far odd : Nat) : Bool :=
  let a := (first 99).ups (far + 1)
  let b := a.odds_ odd
  let c := b.asks (4 - odd)
  decide (b.state = a.state ∧ b.session = a.session ∧ c.state = 2 ∧ c.session = a.session + 1 ∧ ((c.valve.latched = 131) ↔ (a.state = 4)))
def repeatsB (far times : Nat) : Bool :=
  let a := (first 9).ups far
  let r := a.got (a.opUnit (far + 1) false small.sign [])
  let b := r.1
  let u := b.opUnit (far + 1) false small.sign []
  let again : Nat → DevM := fun n => n.rec b fun _ g => (g.got u).1
  (List.range times).all fun i =>
    let g := again i
    let q := g.got u
    decide (q.2.1 = r.2.1 ∧ ((q.2.2 = 0) ↔ far ≠ 0) ∧ q.1.state = b.state ∧ q.1.session = b.session ∧ q.1.number = b.number ∧ q.1.sent = b.sent ∧ q.1.since = b.since ∧ q.1.valve.latched = b.valve.latched)
theorem givesUp_small : ∀ far < 4, ∀ odd < 4, givesUpB far odd = true := by decide +kernel
theorem repeats_small : ∀ far < 3, ∀ times < 4, repeatsB far times = true := by decide +kernel
end DevM
end Go.Proofs.YtbkkfkbgcklkgaaGreat
/- parapetlaw13: frame, Awake; a new memory. -/
namespace Go.Proofs.YtbkkfkbgcklkgaaGreat
open Go.RowKit
set_option maxHeartbeats 10000000
set_option maxRecDepth 100000

theorem lawFrame_any (k c s n f : Int) (data : List UInt8) (A : Option Addr) (len cap Br : Nat) (w : World) (hlen : data.length = len) (hc : 0 ≤ c ∧ c < 4294967296) (hs : 0 ≤ s ∧ s < 4294967296) (hn : 0 ≤ n ∧ n < 4294967296) (hr : Reads w Br 1 A len (u8c data)) (hB : Br ≤ w.heap.size) :
    Calls Tryz.prog 28 #[.agg #[.int .i64 k, .int .u32 c, .int .u32 s, .int .u32 n, .int .i64 f, .slice A len cap]] w fun e w' => ∃ v, e = .returned v ∧ w'.ownsRow w.heap.size 5 1 v (UnitM.mk k c s n f data).encode.length (u8c (UnitM.mk k c s n f data).encode) ∧ Below w.heap.size w w' := by
  subst hlen
  have hb1 : Below w.heap.size w (w.alloc (.cells #[.int .i64 k, .int .u32 c, .int .u32 s, .int .u32 n, .int .i64 f, .slice A data.length cap] 68)) := (Below.refl _ _).alloc (Nat.le_refl _) _
  have henc := r4encode_any ⟨k, c, s, n, f, data⟩ A cap Br _ ⟨hc, hs, hn⟩ (hr.below (hb1.mono hB)) (Nat.le_trans hB hb1.size)
  unfold unitVal at henc
  simp only at henc
  generalize (UnitM.mk k c s n f data).encode = fr at *
  generalize (UnitM.mk k c s n f data).lawful = law at *
  have hs1 := hb1.size
  clear hr
  go_enter Tryz.func28, Tryz.ntmps28
  go_wp2_with fail
  refine henc.mono ?_
  rintro e w1 ⟨v, rfl, hown, hbe⟩
  obtain ⟨Av, cv, rfl⟩ := own_slice hown
  go_wp2_with fail
  go_ret
  exact ⟨_, rfl, own_base hown hs1, hb1.trans (hbe.mono hs1)⟩
/-- A new memory of 16 bytes. -/
def mem16 : MemM := ⟨List.replicate 16 0, false, false, 0, 0⟩
theorem memNew16_any (w : World) : Calls Tryz.prog 13 #[.int .i64 16] w fun e w' => ∃ mb, e = .returned (.tuple #[.pointer (some ⟨mb, 0, none⟩), .int .i64 0]) ∧ MemIs w' mb mem16 (fun x => w.heap.size ≤ x ∧ x < w'.heap.size) ∧ Below w.heap.size w w' := by
  have hmk : ∀ W : World, (Instr.makeSlice 41 (.int .i64 16) (.int .i64 16)).run Tryz.prog W = .ok (.slice (some ⟨W.heap.size, 0, none⟩) 16 16) (W.alloc (.cells (madeCells #[.int .u8 0] 16) 5)) := run_make_row' (P := Tryz.prog) 41 5 (.int .u8 0) 1 Tryz.underlying41 byte_info rfl .i64 .i64 16 (by omega) (by omega)
  have hmade := own_made w 16 (by omega)
  go_enter Tryz.func13, Tryz.ntmps13
  go_wp2_with fail
  refine bodyPost_ret (v := .tuple #[.pointer (some ⟨w.heap.size + 1, 0, none⟩), .int .i64 0]) (by simp [results, Tryz.results13, go_sem]) rfl ⟨w.heap.size + 1, rfl, ⟨.slice (some ⟨w.heap.size, 0, none⟩) 16 16, 0, ?_⟩, ((Below.refl _ w).alloc (Nat.le_refl _) _).alloc (by simp) _⟩
  exact {
    blk := Blk.new' (w.alloc _) _ _ (by simp)
    bytes := own_base (own_below hmade ((Below.refl _ _).alloc (Nat.le_refl _) _)) (Nat.zero_le _)
    fb := by simp
    fr := fun x hx => by simp [Value.ownBlock] at hx; simp; omega
    len := by decide
    left := by simp [mem16] }
theorem small_eq : DevM.small = smallM := rfl
theorem first_inv (mx : Int) (h : 0 < mx ∧ mx < 4294967296) : (DevM.first mx).Inv :=
  (DevM.inv_new (p := smallM) (m := mem16) (mx := mx) small_ok (by omega) (DevM.new_small mx (by omega))).1
/-- A new device over a new memory, at the small set. -/
theorem devFirst_any (mb : Nat) (F : Nat → Prop) (B : Nat) (mx : Int) (w : World) (hM : MemIs w mb mem16 F) (hlo : ∀ x, F x → B ≤ x ∧ x < w.heap.size) (hB : B ≤ w.heap.size) (hmx : 0 < mx ∧ mx < 4294967296) :
    Calls Tryz.prog 15 #[parVal smallM, .pointer (some ⟨mb, 0, none⟩), .int .u32 mx] w fun e w' => ∃ a F', e = .returned (.tuple #[.pointer (some ⟨a, 0, none⟩), .int .i64 0]) ∧ DevIs B w' a mb (DevM.first mx) F' ∧ Keep F w w' ∧ ∀ x, F' x → F x ∨ w.heap.size ≤ x := by
  refine (devNew_any B mb smallM mem16 F mx w hM rfl hlo hB (by omega)).mono ?_
  have hn : DevM.new smallM mem16 mx = (mem16, some (DevM.first mx), 0) := DevM.new_small mx (by omega)
  rw [hn]
  rintro e w' ⟨hk, _, a, F', he, hI, hF⟩
  exact ⟨a, F', he, hI, hk, hF⟩
/-- The host's wish, at the small set. -/
def wishU : UnitM := ⟨1, 7, 0, 0, 0, smallM.sign⟩
theorem wish_decode : decodeM wishU.encode = (wishU, 0) := by
  apply decode_encode
  · unfold UnitM.lawful wishU
    simp [isHost, isDev, dataOk, sessOk, numOk, flagOk, sign_length]
  · exact ⟨by simp [wishU], by simp [wishU], by simp [wishU]⟩
theorem wish_receive {d : DevM} (hp : d.p = smallM) (h6 : d.state ≠ 6) : d.receive wishU.encode = (if d.wish.2.2 = 0 ∨ d.wish.2.2 = 70 then d.wish else ({ d.wish.1 with log := noteM d.wish.1.log d.wish.2.2 d.wish.1.session d.wish.1.number }, d.wish.2.1, d.wish.2.2)) := by
  have hr : d.read wishU.encode = d.wish := by
    unfold DevM.read
    simp only [wish_decode]
    rw [if_neg (by decide), if_neg (by decide), if_neg (by rw [hp]; decide)]
    unfold DevM.take
    rw [if_pos (show wishU.kind = 1 from rfl), if_pos (by rw [hp]; rfl)]
  unfold DevM.receive
  rw [if_neg h6, hr]
/-- What the first wish answers. -/
theorem first_wish (mx : Int) (h : 0 < mx) : (DevM.first mx).wish = ((DevM.first mx).wish.1, (UnitM.mk 17 7 1 0 0 smallM.sign).encode, 0) ∧ (DevM.first mx).wish.1.session = 1 ∧ (DevM.first mx).wish.1.state = 2 := by
  have hb : (DevM.first mx).busy = false := by simp [DevM.busy, DevM.first]
  have e : (DevM.first mx).wish = (DevM.first mx).begin_ := by unfold DevM.wish; rw [hb]; rfl
  have hn : (DevM.first mx).cell.next (DevM.first mx).m = (⟨mx, 1, false⟩, ((DevM.first mx).m.writeSlot 0 1).1, 1, 0) := by
    show (⟨mx, 0, false⟩ : CellM).next ⟨List.replicate 16 0, false, false, 0, 0⟩ = _
    unfold CellM.next
    rw [if_neg (by simp), if_neg (by dsimp only; omega)]
    rfl
  rw [e]
  unfold DevM.begin_
  rw [hn]
  simp only
  rw [if_neg (by decide), if_neg (by decide)]
  exact ⟨rfl, rfl, rfl⟩
theorem offer_decode : decodeM (UnitM.mk 17 7 1 0 0 smallM.sign).encode = (UnitM.mk 17 7 1 0 0 smallM.sign, 0) := by
  apply decode_encode
  · unfold UnitM.lawful
    simp [isHost, isDev, dataOk, sessOk, numOk, flagOk, sign_length]
  · exact ⟨by simp, by simp, by simp⟩
theorem end_state (a0 a1 a2 a3 a4 a5 a6 a7 a8 : Value) (W : World) : (Instr.field 52 (.agg #[a0, a1, a2, a3, a4, a5, a6, a7, a8]) 0).run Tryz.prog W = .ok a0 W := by
  unfold Instr.field
  simp only [Sem.run_bind, run_underlying Tryz.underlying52, Result.andThen]
  have hagg : (isAgg 50).run Tryz.prog W = .ok false W := by kernel_rfl
  show Sem.run _ (do let l ← asAgg (Value.agg #[a0, a1, a2, a3, a4, a5, a6, a7, a8]); part 50 l 0) W = _
  simp [Sem.run_bind, asAgg, part, hagg, Sem.run_pure]
theorem lawAwakeD_any (w : World) : Calls Tryz.prog 12 #[] w fun e w' => e = .returned (.bool true) ∧ Below w.heap.size w w' := by
  have hfld := end_state
  go_enter Tryz.func12, Tryz.ntmps12
  go_wp2_with fail
  refine (memNew16_any w).mono ?_
  rintro e w1 ⟨mb, rfl, hM, hb1⟩
  go_wp2_with fail
  refine (lawSmall_any w1).mono ?_
  rintro e w2 ⟨rfl, hb2⟩
  have hs1 := hb1.size
  have hb2' := hb1.trans (hb2.mono hs1)
  go_wp2_with fail
  refine (devFirst_any mb _ w.heap.size 9 w2 (hM.below hb2) (fun x hx => by have := hb2.size; omega) hb2'.size (by omega)).mono ?_
  rintro e w3 ⟨a, F, rfl, hI, hk3, hF⟩
  have hb3 : Below w.heap.size w w3 := hb2'.trans (hk3.below hb2'.size (fun x hx => hx.1))
  go_wp2_with fail
  refine (lawSmall_any w3).mono ?_
  rintro e w4 ⟨rfl, hb4⟩
  go_wp2_with fail
  refine (r9sign_any smallM w4 small_ok small_lawful).mono ?_
  rintro e w5 ⟨v5, rfl, hown5, hb5⟩
  obtain ⟨A5, c5, rfl⟩ := own_slice hown5
  have hb45 := hb4.trans (hb5.mono hb4.size)
  have hs3 := hb3.size
  go_wp2_with fail
  refine (lawFrame_any 1 7 0 0 0 smallM.sign A5 4 c5 w5.heap.size w5 (sign_length _) (by omega) (by omega) (by omega) (Reads.of_own hown5) (Nat.le_refl _)).mono ?_
  rintro e w6 ⟨v6, rfl, hown6, hb6⟩
  obtain ⟨A6, c6, rfl⟩ := own_slice hown6
  have hb36 := hb45.trans (hb6.mono hb45.size)
  have hb06 := hb3.trans (hb36.mono hs3)
  have hrec := devReceive_any w.heap.size a mb (DevM.first 9) F A6 wishU.encode.length c6 w6.heap.size wishU.encode w6 (hI.below hb36) (first_inv 9 (by omega)) (by decide) (Reads.of_own hown6) (Nat.le_refl _) (own_cap hown6) (by have := encode_small wishU; omega)
  have hwr : (DevM.first 9).receive wishU.encode = ((DevM.first 9).wish.1, (UnitM.mk 17 7 1 0 0 smallM.sign).encode, 0) := by
    rw [wish_receive rfl (by decide)]
    have e := (first_wish 9 (by omega)).1
    rw [e]
    simp
  have hst := (first_wish 9 (by omega)).2.2
  have hinv := ((first_inv 9 (by omega)).wish)
  rw [hwr] at hrec
  generalize (DevM.first 9).wish.1 = k at *
  have hdec := offer_decode
  generalize hfr : (UnitM.mk 17 7 1 0 0 smallM.sign).encode = fr at *
  replace hrec : Calls Tryz.prog 19 #[.pointer (some ⟨a, 0, none⟩), .slice A6 (UnitM.mk 1 7 0 0 0 smallM.sign).encode.length c6] w6 fun e w' => DevAns w.heap.size w6 a mb F (k, fr, 0) e w' := hrec
  generalize (UnitM.mk 1 7 0 0 0 smallM.sign).encode.length = n6 at *
  clear hwr hfr
  go_wp2_with fail
  refine hrec.mono ?_
  rintro e w7 ⟨x7, rfl, hown7, t7⟩
  simp only at hown7
  obtain ⟨A7, c7, rfl⟩ := own_slice hown7
  have hb7 : Below w.heap.size w w7 := hb06.trans (t7.too.keep.below hb06.size (fun x hx => ((hI.lo x hx)).1))
  have hI7 := t7.too.is_
  clear hrec hown6
  go_wp2_with fail
  refine (r4decode_any A7 _ c7 w7.heap.size fr w7 (Reads.of_own hown7) (Nat.le_refl _) (own_cap hown7)).mono ?_
  rw [hdec]
  simp only
  rintro e w8 ⟨v8, rfl, hown8, hb8⟩
  obtain ⟨A8, c8, rfl⟩ := own_slice hown8
  have hb8' := hb7.trans (hb8.mono hb7.size)
  generalize smallM.sign.length = nd at *
  have hI8 := (hI7.below hb8).below ((Below.refl w8.heap.size w8).alloc (Nat.le_refl _) (.cells #[.int .i64 17, .int .u32 7, .int .u32 1, .int .u32 0, .int .i64 0, .slice A8 nd c8] 68))
  have hb9 := hb8'.alloc hb8'.size (.cells #[.int .i64 17, .int .u32 7, .int .u32 1, .int .u32 0, .int .i64 0, .slice A8 nd c8] 68)
  unfold unitVal
  simp only
  clear hown8 hdec hown7
  have hsee := devSee_any w.heap.size a mb k _ _ hI8 hinv
  have hst2 : k.see.state = 2 := hst
  generalize k.see = em at hsee hst2
  obtain ⟨state, session, number, sent, since, latched, request, on, out⟩ := em
  simp only at hst2
  subst hst2
  go_wp2_with fail
  refine hsee.mono ?_
  rintro e w10 ⟨x10, rfl, hown10, hb10⟩
  have hb10' := hb9.trans (hb10.mono hb9.size)
  obtain ⟨A10, c10, rfl⟩ := own_slice hown10
  unfold endVal
  simp only
  go_wp2_with fail
  go_ret
  exact ⟨rfl, hb10'⟩
end Go.Proofs.YtbkkfkbgcklkgaaGreat
/- The reference's device: New. -/
namespace Go.Proofs.YtbkkfkbgcklkgaaGreat
open Go.RowKit
set_option maxHeartbeats 10000000
set_option maxRecDepth 100000

theorem newκ {d c : Nat} {F : Nat → Prop} (h : d ≠ c) (hd : ¬ F d) (hc : ¬ F c) : ∃ κ : Nat → Option Nat, Of κ 0 d ∧ Of κ 6 c ∧ (∀ x, F x → Of κ 5 x) ∧ ∀ x, κ x ≠ none → x = d ∨ x = c ∨ F x := by
  classical
  refine ⟨fun x => if x = d then some 0 else if x = c then some 6 else if F x then some 5 else none, by simp [Of], by simp [Of, Ne.symm h], fun x hx => ?_, fun x hx => ?_⟩
  · have h1 : x ≠ d := fun e => hd (e ▸ hx)
    have h2 : x ≠ c := fun e => hc (e ▸ hx)
    simp [Of, h1, h2, hx]
  · by_cases h1 : x = d
    · exact .inl h1
    by_cases h2 : x = c
    · exact .inr (.inl h2)
    by_cases h3 : F x
    · exact .inr (.inr h3)
    · simp [h1, h2, h3] at hx
theorem rdNew_any (B mb : Nat) (p : ParM) (m : MemM) (F : Nat → Prop) (mx : Int) (w : World) (ho : p.Ok) (h : RMemIs w mb m F) (hF : ∀ x, F x → B ≤ x ∧ x < w.heap.size) :
    Calls Tryz.prog 17 #[parVal p, .pointer (some ⟨mb, 0, none⟩), .int .u32 mx] w fun e w' => Keep F w w' ∧
      match (DevM.new p m mx).2.1 with
      | some d => ∃ b, e = .returned (.tuple #[.pointer (some ⟨b, 0, none⟩), .int .i64 0]) ∧ RDIs B w' b mb d (grow F w w')
      | none => e = .returned (.tuple #[.pointer none, .int .i64 (DevM.new p m mx).2.2]) := by
  have hfb : F mb := by obtain ⟨row, wr, h⟩ := h; exact h.fb
  have hB : B ≤ w.heap.size := by have := hF mb hfb; omega
  have hchk := fun W => r9lawful_any p W ho
  cases hp : p.lawful with
  | false =>
    have e1 : DevM.new p m mx = (m, none, 90) := by unfold DevM.new; rw [hp]; rfl
    rw [e1]
    rw [hp] at hchk
    unfold parVal at *
    clear e1
    go_enter Tryz.func17, Tryz.ntmps17
    go_wp2_with fail
    refine (hchk _).mono ?_
    rintro e w1 ⟨rfl, hb1⟩
    go_wp2_with fail
    refine bodyPost_ret (v := .tuple #[.pointer none, .int .i64 90]) (by simp [results, Tryz.results17, go_sem]) rfl ⟨?_, rfl⟩
    exact Keep.of_below (((Below.refl _ _).alloc (Nat.le_refl _) _).trans (hb1.mono (by simp)))
  | true =>
    obtain ⟨q, Hq⟩ : ∃ q, Hid (q = DevM.new p m mx) := ⟨_, Lib.hid rfl⟩
    rw [← Hq.out]
    have Hq1 : Hid (q = match openM m mx with
      | (m', some c, _) => (m', some { p, m := m', max := mx, cell := c, value := List.replicate p.inn.toNat 0 }, 0)
      | (m', none, e) => (m', none, e)) := Lib.hid (by rw [Hq.out]; unfold DevM.new; rw [hp]; rfl)
    clear Hq
    have hop := fun W h hF => rOpen_any mb m F mx W h hF
    have hno := @openM_none m mx
    have hso := @openM_some m mx
    generalize openM m mx = r at *
    obtain ⟨M4, co, er⟩ := r
    simp only at hop Hq1 hno hso
    rw [hp] at hchk
    unfold parVal at *
    have hb0 : Below w.heap.size w (w.alloc (.cells #[.int .u32 p.code, .int .i64 p.out, .int .i64 p.inn, .int .i64 p.watch, .int .u32 p.count] 35)) := (Below.refl _ w).alloc (Nat.le_refl _) _
    have hP0 := Blk.new w 35 #[.int .u32 p.code, .int .i64 p.out, .int .i64 p.inn, .int .i64 p.watch, .int .u32 p.count]
    cases co with
    | some k =>
      obtain ⟨_, _, her⟩ := hso (k := k) rfl
      subst her
      have hq : q = (M4, some { p, m := M4, max := mx, cell := k, value := List.replicate p.inn.toNat 0 }, 0) := Hq1.out
      subst hq
      clear hso hno Hq1
      go_enter Tryz.func17, Tryz.ntmps17
      go_wp2_with fail
      refine (hchk _).mono ?_
      rintro e w1 ⟨rfl, hb1⟩
      have hP := hP0.below hb1 hP0.lt
      have hb1' := hb0.trans (hb1.mono hb0.size)
      have hs1 := hb1'.size
      have h1 := h.below hb1'
      have hlt1 : ∀ x, F x → x < w1.heap.size := fun x hx => by have := (hF x hx).2; omega
      have hwF : ¬ F w.heap.size := fun hx => by have := (hF _ hx).2; omega
      clear hb0 hP0 hb1
      go_wp2_with fail
      refine (hop w1 h1 hlt1).mono ?_
      rintro e w2 ⟨⟨hm2, hk2⟩, c, rfl, _, hC, hl1, hl2⟩
      have hP2 := hP.keep hk2 hwF
      have hc := hP2.cell
      have hs2 := hk2.size
      have hk02 : Keep F w w2 := (Keep.of_below hb1').andThen hk2 (fun x _ hx => hx)
      clear hP hchk hop
      go_upto_region 7 with fail
      have hkA := hk02.alloc (.cells #[.int .u32 p.code, .int .i64 p.out, .int .i64 p.inn, .int .i64 p.watch, .int .u32 p.count, .pointer (some ⟨mb, 0, none⟩), .int .u32 mx, .pointer (some ⟨c, 0, none⟩), .slice none 0 0, .int .i64 0, .int .i64 0, .int .i64 0, .bool false, .bool false, .bool false, .int .i64 0, .slice none 0 0, .bool false, .int .i64 0, .int .u32 0, .int .u32 0, .int .u32 0, .int .i64 0, .slice none 0 0, .bool false] 120)
      have hcd : w2.heap.size ≠ c := by omega
      obtain ⟨κ, k0, k6, k5, ks⟩ := newκ (d := w2.heap.size) (c := c) (F := F) hcd (fun hx => by have := (hF _ hx).2; omega) (fun hx => by have := (hF _ hx).2; omega)
      have hbA := (Below.refl w2.heap.size w2).alloc (Nat.le_refl _) (.cells #[.int .u32 p.code, .int .i64 p.out, .int .i64 p.inn, .int .i64 p.watch, .int .u32 p.count, .pointer (some ⟨mb, 0, none⟩), .int .u32 mx, .pointer (some ⟨c, 0, none⟩), .slice none 0 0, .int .i64 0, .int .i64 0, .int .i64 0, .bool false, .bool false, .bool false, .int .i64 0, .slice none 0 0, .bool false, .int .i64 0, .int .u32 0, .int .u32 0, .int .u32 0, .int .i64 0, .slice none 0 0, .bool false] 120)
      have hD := Blk.new w2 120 #[.int .u32 p.code, .int .i64 p.out, .int .i64 p.inn, .int .i64 p.watch, .int .u32 p.count, .pointer (some ⟨mb, 0, none⟩), .int .u32 mx, .pointer (some ⟨c, 0, none⟩), .slice none 0 0, .int .i64 0, .int .i64 0, .int .i64 0, .bool false, .bool false, .bool false, .int .i64 0, .slice none 0 0, .bool false, .int .i64 0, .int .u32 0, .int .u32 0, .int .u32 0, .int .i64 0, .slice none 0 0, .bool false]
      have hz : (w2.alloc (.cells #[.int .u32 p.code, .int .i64 p.out, .int .i64 p.inn, .int .i64 p.watch, .int .u32 p.count, .pointer (some ⟨mb, 0, none⟩), .int .u32 mx, .pointer (some ⟨c, 0, none⟩), .slice none 0 0, .int .i64 0, .int .i64 0, .int .i64 0, .bool false, .bool false, .bool false, .int .i64 0, .slice none 0 0, .bool false, .int .i64 0, .int .u32 0, .int .u32 0, .int .u32 0, .int .i64 0, .slice none 0 0, .bool false] 120)).heap.size = w2.heap.size + 1 := by simp
      generalize w2.alloc (.cells _ 120) = W2 at *
      have hpre : RDPre B W2 w2.heap.size mb p mx [] none 0 M4 k κ c _ _ _ _ _ _ _ _ _ _ _ _ _ _ _ _ := {
        blk := hD
        log := World.ownsRow_nil _ _ _ _
        mem := (hm2.below hbA).keep (S := fun _ => False) (Keep.refl _ _) (fun _ _ h => h) k5
        cell := Blk.below hC hbA hl2
        kb := k0
        kl := fun x hx => by simp [Value.ownBlock] at hx
        kc := k6
        lo := fun x hx => by rcases ks x hx with rfl | rfl | h <;> first | omega | (have := hF x h; omega) }
      have hlife := rdLife_any B w2.heap.size mb p mx [] none 0 M4 k κ c _ _ _ _ _ _ _ _ _ _ _ _ _ _ _ _ 1 W2 hp hpre
      clear hc hpre hP2
      go_wp2_with fail
      refine hlife.mono ?_
      rintro e W3 ⟨rfl, ⟨val, h3⟩, hk3⟩
      have hs3 := hk3.size
      have hK3 : Keep F w W3 := hkA.andThen hk3 (fun x hx e => by omega)
      go_wp2_with fail
      refine bodyPost_ret (v := .tuple #[.pointer (some ⟨w2.heap.size, 0, none⟩), .int .i64 0]) (by simp [results, Tryz.results17, go_sem]) rfl ⟨hK3, _, rfl, ⟨_, none, 0, .slice none 0 0, val, c, h3, ?_⟩, ?_⟩
      · intro x hx
        rcases paint_sub (F := fun x => x = w2.heap.size ∨ x = c ∨ F x) ks x hx with (rfl | rfl | h) | h
        · exact .inr (by omega)
        · exact .inr (by omega)
        · exact .inl h
        · exact .inr (by omega)
      · intro x hx
        rcases hx with h | h
        · have := hF x h; omega
        · omega
    | none =>
      have her := hno rfl
      have hq : q = (M4, none, er) := Hq1.out
      subst hq
      have ger : (er != 0) = true := by simpa using her
      clear hso hno Hq1
      go_enter Tryz.func17, Tryz.ntmps17
      go_wp2_with fail
      refine (hchk _).mono ?_
      rintro e w1 ⟨rfl, hb1⟩
      have hb1' := hb0.trans (hb1.mono hb0.size)
      have hs1 := hb1'.size
      have h1 := h.below hb1'
      have hlt1 : ∀ x, F x → x < w1.heap.size := fun x hx => by have := (hF x hx).2; omega
      clear hb0 hP0 hb1
      go_wp2_with fail
      refine (hop w1 h1 hlt1).mono ?_
      rintro e w2 ⟨⟨hm2, hk2⟩, rfl⟩
      go_wp2_with fail
      refine bodyPost_ret (v := .tuple #[.pointer none, .int .i64 er]) (by simp [results, Tryz.results17, go_sem]) rfl ⟨?_, rfl⟩
      exact (Keep.of_below hb1').andThen hk2 (fun x _ hx => hx)
end Go.Proofs.YtbkkfkbgcklkgaaGreat
/- Both devices alike, in one memory: what the laws' walks carry. -/
namespace Go.Proofs.YtbkkfkbgcklkgaaGreat
open Go.RowKit
set_option maxHeartbeats 10000000
set_option maxRecDepth 100000

theorem stepD_inv {m : DevM} (h : m.Inv) (o : OpM) : (stepD m o).Inv := by
  unfold stepD
  split
  · exact h.receive _
  · split
    · exact h.tick _
    split
    · exact h.write _ _
    split
    · exact h.ack
    split
    · exact h.reset _
    split
    · exact h.arm _
    · exact h
theorem dreceive_log (m : DevM) (l : List UInt8) : (m.receive l).1.log.length ≤ m.log.length + 4 := by
  have := dread_log m l
  unfold DevM.receive
  split
  · simp
  · simp only
    split
    · omega
    · simp [noteM]; omega
theorem dtick_log (m : DevM) (n : Int) : (m.tick n).1.log.length ≤ m.log.length + 1 := by
  unfold DevM.tick
  split
  · simp
  split
  · simp
  · simp only
    split
    · exact dtrip_log _ _
    · simp
theorem dreset_log (d : DevM) (n : Int) : (d.reset n).1.log = d.log := by
  unfold DevM.reset
  split
  · rfl
  · simp only
    generalize openM _ _ = r
    obtain ⟨m, c, e⟩ := r
    cases c <;> rfl
theorem stepD_log (m : DevM) (o : OpM) : (stepD m o).log.length ≤ m.log.length + 4 := by
  unfold stepD
  split
  · exact dreceive_log m _
  · split
    · have := dtick_log m o.n; omega
    split
    · unfold DevM.write
      split
      · simp
      · split <;> simp
    split
    · unfold DevM.ack
      split
      · simp
      · split <;> simp
    split
    · rw [dreset_log]; omega
    split <;> simp
theorem rmemNew16_any (w : World) : Calls Tryz.prog 14 #[.int .i64 16] w fun e w' => ∃ mb, e = .returned (.tuple #[.pointer (some ⟨mb, 0, none⟩), .int .i64 0]) ∧ RMemIs w' mb mem16 (fun x => w.heap.size ≤ x ∧ x < w'.heap.size) ∧ Below w.heap.size w w' := by
  have hmk : ∀ W : World, (Instr.makeSlice 41 (.int .i64 16) (.int .i64 16)).run Tryz.prog W = .ok (.slice (some ⟨W.heap.size, 0, none⟩) 16 16) (W.alloc (.cells (madeCells #[.int .u8 0] 16) 5)) := run_make_row' (P := Tryz.prog) 41 5 (.int .u8 0) 1 Tryz.underlying41 byte_info rfl .i64 .i64 16 (by omega) (by omega)
  have hmade := own_made w 16 (by omega)
  go_enter Tryz.func14, Tryz.ntmps14
  go_wp2_with fail
  refine bodyPost_ret (v := .tuple #[.pointer (some ⟨w.heap.size + 1, 0, none⟩), .int .i64 0]) (by simp [results, Tryz.results14, go_sem]) rfl ⟨w.heap.size + 1, rfl, ⟨.slice (some ⟨w.heap.size, 0, none⟩) 16 16, 0, ?_⟩, ((Below.refl _ w).alloc (Nat.le_refl _) _).alloc (by simp) _⟩
  exact {
    blk := Blk.new' (w.alloc _) _ _ (by simp)
    bytes := own_base (own_below hmade ((Below.refl _ _).alloc (Nat.le_refl _) _)) (Nat.zero_le _)
    fb := by simp
    fr := fun x hx => by simp [Value.ownBlock] at hx; simp; omega
    len := by decide
    left := by simp [mem16] }
/-- A new device of the reference's over a new memory, at the small set. -/
theorem rdFirst_any (mb : Nat) (F : Nat → Prop) (B : Nat) (mx : Int) (w : World) (hM : RMemIs w mb mem16 F) (hlo : ∀ x, F x → B ≤ x ∧ x < w.heap.size) (hmx : 0 < mx) :
    Calls Tryz.prog 17 #[parVal smallM, .pointer (some ⟨mb, 0, none⟩), .int .u32 mx] w fun e w' => ∃ b, e = .returned (.tuple #[.pointer (some ⟨b, 0, none⟩), .int .i64 0]) ∧ RDIs B w' b mb (DevM.first mx) (grow F w w') ∧ Keep F w w' := by
  refine (rdNew_any B mb smallM mem16 F mx w small_ok hM hlo).mono ?_
  have hn : DevM.new smallM mem16 mx = (mem16, some (DevM.first mx), 0) := DevM.new_small mx (by omega)
  rw [hn]
  rintro e w' ⟨hk, b, he, hI⟩
  exact ⟨b, he, hI, hk⟩
/-- Both devices stand alike; all that is theirs lies in T. -/
structure TwoD (B : Nat) (w : World) (a ma b mb : Nat) (m : DevM) (T : Nat → Prop) : Prop where
  pair : ∃ F1 F2, PairD B w a ma b mb m m F1 F2 ∧ ∀ x, F1 x ∨ F2 x → T x
  inv : m.Inv
  lt : ∀ x, T x → x < w.heap.size
section
variable {B a ma b mb : Nat} {w w' : World} {m : DevM} {T T' : Nat → Prop}
theorem TwoD.below (h : TwoD B w a ma b mb m T) (hb : Below w.heap.size w w') : TwoD B w' a ma b mb m T := by
  obtain ⟨F1, F2, hP, hT⟩ := h.pair
  exact ⟨⟨F1, F2, hP.below hb, hT⟩, h.inv, fun x hx => by have := h.lt x hx; have := hb.size; omega⟩
theorem TwoD.Ble (h : TwoD B w a ma b mb m T) : B ≤ w.heap.size := by
  obtain ⟨F1, F2, hP, _⟩ := h.pair
  exact hP.dev.Ble
/-- The two memories, made one behind the other. -/
structure Mems (B : Nat) (w : World) (ma mb : Nat) (m1 m2 : MemM) (F1 F2 : Nat → Prop) : Prop where
  m1 : MemIs w ma m1 F1
  m2 : RMemIs w mb m2 F2
  lo1 : ∀ x, F1 x → B ≤ x ∧ x < w.heap.size
  lo2 : ∀ x, F2 x → B ≤ x ∧ x < w.heap.size
  dj : ∀ x, F1 x → ¬ F2 x
/-- .. the program's device over the one: the other memory stays. -/
theorem Mems.dev {F1 F2 F1' : Nat → Prop} {M1 M2 : MemM} (h : Mems B w ma mb M1 M2 F1 F2) (hk : Keep F1 w w') (hs : ∀ x, F1' x → F1 x ∨ w.heap.size ≤ x) :
    RMemIs w' mb M2 F2 ∧ (∀ x, F2 x → B ≤ x ∧ x < w'.heap.size) ∧ ∀ x, F1' x → ¬ F2 x :=
  ⟨h.m2.keep hk (fun x hx h1 => h.dj x h1 hx) (fun _ h => h), fun x hx => by have := h.lo2 x hx; have := hk.size; omega, fun x hx h2 => (hs x hx).elim (fun h1 => h.dj x h1 h2) (fun h1 => by have := (h.lo2 x h2).2; omega)⟩
/-- .. and the reference's over the other. -/
theorem two_newD {F1 F2 : Nat → Prop} (hi : m.Inv) (hI : DevIs B w a ma m F1) (hdj : ∀ x, F1 x → ¬ F2 x) (hR : RDIs B w' b mb m (grow F2 w w')) (hk : Keep F2 w w') : TwoD B w' a ma b mb m (fun x => F1 x ∨ grow F2 w w' x) where
  pair := ⟨F1, grow F2 w w', ⟨hI.keepS hk (fun x hx h2 => hdj x hx h2), hR, fun x hx h2 => h2.elim (hdj x hx) (fun h2 => by have := (hI.lo x hx).2; omega)⟩, fun _ h => h⟩
  inv := hi
  lt := fun x hx => by
    rcases hx with hx | hx
    · have := (hI.lo x hx).2; have := hk.size; omega
    · exact (hR.lo x hx).2
/-- One call of the law's. -/
theorem two_stepD (h : TwoD B w a ma b mb m T) (hlen : m.log.length < 1073741600) (o : OpM) (A : Option Addr) (c : Nat) (ho : o.Ok) (hr : Reads w w.heap.size 1 A o.data.length (u8c o.data)) (hdj : 0 < o.data.length → ∀ ad, A = some ad → ad.block < B ∨ ¬ T ad.block) (hoc : o.data.length ≤ c) (hod : o.data.length ≤ 140737488351232) :
    Calls Tryz.prog 32 #[.pointer (some ⟨a, 0, none⟩), .pointer (some ⟨ma, 0, none⟩), .pointer (some ⟨b, 0, none⟩), opVal o (.slice A o.data.length c)] w fun e w' => e = .returned (.bool true) ∧ TwoD B w' a ma b mb (stepD m o) (grow T w w') ∧ Keep T w w' ∧ Below B w w' := by
  obtain ⟨F1, F2, hP, hT⟩ := h.pair
  refine (l13step_any B a ma b mb m F1 F2 o A c w hP h.inv hlen ho hr (fun hn ad e => ?_) hoc hod).mono ?_
  · rcases hdj hn ad e with h1 | h1
    · exact ⟨fun hx => by have := (hP.dev.lo _ hx).1; omega, fun hx => by have := (hP.ref.lo _ hx).1; omega⟩
    · exact ⟨fun hx => h1 (hT _ (.inl hx)), fun hx => h1 (hT _ (.inr hx))⟩
  rintro e w' ⟨he, F1', F2', hR⟩
  refine ⟨he, ⟨⟨F1', F2', hR.pair, ?_⟩, stepD_inv h.inv o, grow_lt h.lt hR.keep.size⟩, hR.keep.mono (fun x _ hx => hT x hx), hR.belowB hP⟩
  rintro x (hx | hx)
  · rcases hR.sub1 x hx with h1 | h1
    · exact .inl (hT x (.inl h1))
    · exact .inr ⟨h1, (hR.pair.dev.lo x hx).2⟩
  · rcases hR.sub2 x hx with h1 | h1
    · exact .inl (hT x (.inr h1))
    · exact .inr ⟨h1, (hR.pair.ref.lo x hx).2⟩
theorem two_frameD (h : TwoD B w a ma b mb m T) (o : OpM) (A : Option Addr) (c Br : Nat) (ho : o.Ok) (hr : Reads w Br 1 A o.data.length (u8c o.data)) (hBr : Br ≤ w.heap.size) (hoc : o.data.length ≤ c) (hod : o.data.length ≤ 140737488351232) :
    Calls Tryz.prog 18 #[.pointer (some ⟨b, 0, none⟩), opVal o (.slice A o.data.length c)] w fun e w' => ∃ v, e = .returned (.tuple #[v, .bool (frameD m o).isSome]) ∧ (frameD m o = none → v = .slice none 0 0) ∧ (∀ f, frameD m o = some f → w'.ownsRow w.heap.size 5 1 v f.length (u8c f)) ∧ Below w.heap.size w w' := by
  obtain ⟨F1, F2, hP, _⟩ := h.pair
  exact l13Frame_any B b mb m F2 o A c Br w hP.ref h.inv ho hr hBr hoc hod
theorem two_seeD (h : TwoD B w a ma b mb m T) : Calls Tryz.prog 21 #[.pointer (some ⟨a, 0, none⟩)] w fun e w' => ∃ x, e = .returned (endVal m.see x) ∧ w'.ownsRow w.heap.size 5 1 x m.see.out.length (u8c m.see.out) ∧ Below w.heap.size w w' := by
  obtain ⟨F1, F2, hP, _⟩ := h.pair
  exact devSee_any B a ma m F1 w hP.dev h.inv
theorem two_logD (h : TwoD B w a ma b mb m T) (hlen : m.log.length < 1073741600) :
    Calls Tryz.prog 35 #[.pointer (some ⟨a, 0, none⟩)] w fun e w' => ∃ x, e = .returned (.tuple #[x, .int .i64 m.log.length]) ∧ w'.ownsRow w.heap.size 175 4 x (kept m.log).length (recsCells (kept m.log)) ∧ Below w.heap.size w w' := by
  obtain ⟨F1, F2, hP, _⟩ := h.pair
  exact devLog_any B a ma m F1 w hP.dev (by omega)
/-- The program's device has received, the reference's not yet. -/
structure HalfD (B : Nat) (w : World) (a ma b mb : Nat) (m1 m : DevM) (T T' : Nat → Prop) : Prop where
  pair : ∃ F1 F2, PairD B w a ma b mb m1 m F1 F2 ∧ (∀ x, F1 x → T' x) ∧ ∀ x, F2 x → T x
  inv1 : m1.Inv
  inv : m.Inv
  lt : ∀ x, T' x → x < w.heap.size
  sub : ∀ x, T x → T' x
theorem HalfD.below {m1 : DevM} (h : HalfD B w a ma b mb m1 m T T') (hb : Below w.heap.size w w') : HalfD B w' a ma b mb m1 m T T' := by
  obtain ⟨F1, F2, hP, hT, hT2⟩ := h.pair
  exact ⟨⟨F1, F2, hP.below hb, hT, hT2⟩, h.inv1, h.inv, fun x hx => by have := h.lt x hx; have := hb.size; omega, h.sub⟩
theorem two_receiveD (h : TwoD B w a ma b mb m T) (hlen : m.log.length < 1073741600) (n : Nat) (l : List UInt8) (A : Option Addr) (c Br : Nat) (hr : Reads w Br 1 A n (u8c l)) (hB : Br ≤ w.heap.size) (hc : n ≤ c) (hn : n ≤ 140737488351232) :
    Calls Tryz.prog 19 #[.pointer (some ⟨a, 0, none⟩), .slice A n c] w fun e w' => ∃ x T', e = .returned (.tuple #[x, .int .i64 (m.receive l).2.2]) ∧ w'.ownsRow w.heap.size 5 1 x (m.receive l).2.1.length (u8c (m.receive l).2.1) ∧ HalfD B w' a ma b mb (m.receive l).1 m T T' ∧ (∀ y, T' y → grow T w w' y) ∧ (∀ y, x.ownBlock = some y → ¬ T' y) ∧ Keep T w w' ∧ Below B w w' := by
  obtain ⟨F1, F2, hP, hT⟩ := h.pair
  refine (devReceive_any B a ma m F1 A n c Br l w hP.dev h.inv (by omega) hr hB hc hn).mono ?_
  rintro e w' ⟨x, he, hx, t⟩
  obtain ⟨F', hI', hs', hx'⟩ := t.ap
  have hsz := t.too.keep.size
  refine ⟨x, fun y => F' y ∨ T y, he, hx, ⟨⟨F', F2, ⟨hI', hP.ref.keepS t.too.keep (fun y hy h1 => hP.dj y h1 hy), fun y hy h2 => (hs' y hy).elim (fun h1 => hP.dj y h1 h2) (fun h1 => by have := (hP.ref.lo y h2).2; omega)⟩, fun y hy => .inl hy, fun y hy => hT y (.inr hy)⟩, h.inv.receive l, h.inv, fun y hy => ?_, fun y hy => .inr hy⟩, fun y hy => ?_, fun y hy hh => ?_, t.too.keep.mono (fun y _ hy => hT y (.inl hy)), DevTo.belowB hP.dev t.too⟩
  · rcases hy with hy | hy
    · exact (hI'.lo y hy).2
    · have := h.lt y hy; omega
  · rcases hy with hy | hy
    · exact (hs' y hy).imp (fun h1 => hT y (.inl h1)) id
    · exact .inl hy
  · rcases hh with hh | hh
    · exact hx' y hy hh
    · have h1 := h.lt y hh; have h2 := (hx.lt y hy).1; omega
/-- .. the reference's too; what the program's device answered stays. -/
theorem half_receiveD {m : DevM} (n : Nat) (l : List UInt8) (h : HalfD B w a ma b mb (m.receive l).1 m T T') (hlen : m.log.length < 1073741600) (A : Option Addr) (c Br : Nat) (hr : Reads w Br 1 A n (u8c l)) (hB : Br ≤ w.heap.size) (hc : n ≤ c) :
    Calls Tryz.prog 20 #[.pointer (some ⟨b, 0, none⟩), .slice A n c] w fun e w' => ∃ x T2, e = .returned (.tuple #[x, .int .i64 (m.receive l).2.2]) ∧ w'.ownsRow w.heap.size 5 1 x (m.receive l).2.1.length (u8c (m.receive l).2.1) ∧ TwoD B w' a ma b mb (m.receive l).1 T2 ∧ (∀ y, T2 y → grow T' w w' y) ∧ (∀ y, x.ownBlock = some y → ¬ T2 y) ∧ Keep T w w' ∧ Below B w w' := by
  obtain ⟨F1, F2, hP, hT, hT2⟩ := h.pair
  refine (rdReceive_any B b mb m F2 A n c Br l w hP.ref h.inv (by omega) hr hB hc).mono ?_
  rintro e w' ⟨x, he, hx, t⟩
  obtain ⟨F', hI', hs', hx'⟩ := t.ap
  have hsz := t.too.keep.size
  refine ⟨x, fun y => F' y ∨ T' y, he, hx, ⟨⟨F1, F', ⟨hP.dev.keepS t.too.keep (fun y hy h2 => hP.dj y hy h2), hI', fun y hy h2 => (hs' y h2).elim (fun h2 => hP.dj y hy h2) (fun h2 => by have := (hP.dev.lo y hy).2; omega)⟩, fun y hy => hy.elim (fun hy => .inr (hT y hy)) .inl⟩, h.inv1, fun y hy => ?_⟩, fun y hy => ?_, fun y hy hh => ?_, t.too.keep.mono (fun y _ hy => hT2 y hy), RDTo.belowB hP.ref t.too⟩
  · rcases hy with hy | hy
    · exact (hI'.lo y hy).2
    · have := h.lt y hy; omega
  · rcases hy with hy | hy
    · exact (hs' y hy).imp (fun h1 => h.sub y (hT2 y h1)) id
    · exact .inl hy
  · rcases hh with hh | hh
    · exact hx' y hy hh
    · have h1 := h.lt y hh; have h2 := (hx.lt y hy).1; omega
end
end Go.Proofs.YtbkkfkbgcklkgaaGreat
/- How a row opens a list of calls (a slice of structs of seven fields, one of them a slice of bytes): read as a list of ops. -/
namespace Go.Proofs.YtbkkfkbgcklkgaaGreat
open Go.ChangeShapes Go.WideShapes Go.RowKit Go.Deep

/-- The cells of an op. -/
def opCells (o : OpM) (x : Value) : Array Value := #[.int .i64 o.kind, .int .i64 o.n, .int .i64 o.flags, .bool o.odd, x, .int .i64 o.at_, .int .u32 o.word]
/-- Op i of a list in memory, its data among what is below B. -/
def OpAt (w : World) (B : Nat) (ad : Addr) (i : Nat) (o : OpM) : Prop :=
  o.Ok ∧ o.data.length ≤ 140737488351232 ∧ ∃ D c, (∀ j u, (opCells o (.slice D o.data.length c))[j]? = some u → w.cell? (ad.add (i * 7 + j)) = some u) ∧ Reads w B 1 D o.data.length (u8c o.data) ∧ o.data.length ≤ c ∧ (D = none → o.data.length = 0)
/-- A list of ops in memory. -/
def OpsAt (w : World) (B : Nat) (A : Option Addr) (n : Nat) (l : List OpM) : Prop := l.length = n ∧ (0 < n → ∃ ad, A = some ad ∧ ad.block < B ∧ ∀ i o, l[i]? = some o → OpAt w B ad i o)
theorem OpAt.below {w w' : World} {B : Nat} {ad : Addr} {i : Nat} {o : OpM} (h : OpAt w B ad i o) (hb : Below B w w') (ha : ad.block < B) : OpAt w' B ad i o := by
  obtain ⟨h1, h2, D, c, h3, h4, h5⟩ := h
  exact ⟨h1, h2, D, c, fun j u hu => (hb.cell (by rw [block_of_add]; exact ha)).trans (h3 j u hu), h4.below hb, h5⟩
theorem OpsAt.below {w w' : World} {B n : Nat} {A : Option Addr} {l : List OpM} (h : OpsAt w B A n l) (hb : Below B w w') : OpsAt w' B A n l := by
  refine ⟨h.1, fun hn => ?_⟩
  obtain ⟨ad, e, ha, h3⟩ := h.2 hn
  exact ⟨ad, e, ha, fun i o ho => (h3 i o ho).below hb ha⟩

theorem addr7 (ad : Addr) (k j : Nat) (hj : j ≠ 0) : ad.add (k * 7 + j) = ⟨(ad.add (k * 7)).block, (ad.add (k * 7)).off + j, none⟩ := by
  rw [← add_of_add]
  generalize ad.add (k * 7) = y
  unfold Addr.add
  rw [if_neg hj]
/-- One op of the list, as a walk wants it. -/
theorem ops_at {w : World} {B n : Nat} {A : Option Addr} {l : List OpM} (h : OpsAt w B A n l) {k : Nat} (hk : k < n) : ∃ ad o D c, A = some ad ∧ l[k]? = some o ∧
    (w.cell? (ad.add (k * 7)) = some (.int .i64 o.kind) ∧ w.cell? ⟨(ad.add (k * 7)).block, (ad.add (k * 7)).off + 1, none⟩ = some (.int .i64 o.n) ∧ w.cell? ⟨(ad.add (k * 7)).block, (ad.add (k * 7)).off + 2, none⟩ = some (.int .i64 o.flags) ∧
      w.cell? ⟨(ad.add (k * 7)).block, (ad.add (k * 7)).off + 3, none⟩ = some (.bool o.odd) ∧ w.cell? ⟨(ad.add (k * 7)).block, (ad.add (k * 7)).off + 4, none⟩ = some (.slice D o.data.length c) ∧
      w.cell? ⟨(ad.add (k * 7)).block, (ad.add (k * 7)).off + 5, none⟩ = some (.int .i64 o.at_) ∧ w.cell? ⟨(ad.add (k * 7)).block, (ad.add (k * 7)).off + 6, none⟩ = some (.int .u32 o.word)) ∧
    o.Ok ∧ Reads w B 1 D o.data.length (u8c o.data) ∧ o.data.length ≤ c ∧ o.data.length ≤ 140737488351232 ∧ ad.block < B := by
  obtain ⟨ad, hA, hb, hall⟩ := h.2 (by omega)
  have hkl : k < l.length := by rw [h.1]; exact hk
  obtain ⟨o, ho⟩ : ∃ o, l[k]? = some o := ⟨_, List.getElem?_eq_getElem hkl⟩
  obtain ⟨h1, h2, D, c, h3, h4, h5, _⟩ := hall k o ho
  refine ⟨ad, o, D, c, hA, ho, ⟨h3 0 _ rfl, ?_, ?_, ?_, ?_, ?_, ?_⟩, h1, h4, h5, h2, hb⟩
  · rw [← addr7 ad k 1 (by omega)]; exact h3 1 _ rfl
  · rw [← addr7 ad k 2 (by omega)]; exact h3 2 _ rfl
  · rw [← addr7 ad k 3 (by omega)]; exact h3 3 _ rfl
  · rw [← addr7 ad k 4 (by omega)]; exact h3 4 _ rfl
  · rw [← addr7 ad k 5 (by omega)]; exact h3 5 _ rfl
  · rw [← addr7 ad k 6 (by omega)]; exact h3 6 _ rfl

section
variable {H : Type} {enc : TypeId × Value → H} {P : Program} {W : World} {base : Nat} {spare : Nat → Bool} {held : Bool}
theorem weightsAll_mem {e : TypeId} {d : DataW H} : ∀ {l : List (DataW H)}, d ∈ l → ∀ n ∈ d.weights P e, n ∈ DataW.weightsAll P e l
  | x :: l, hd, n, hn => by
    simp only [DataW.weightsAll, List.mem_append]
    rcases List.mem_cons.1 hd with rfl | hd
    · exact .inl hn
    · exact .inr (weightsAll_mem hd n hn)
theorem reads_ops {t e te : TypeId} {f0 f1 f2 f3 f4 f5 f6 : Field} {a : Option Addr} {len cap : Nat} {d : DataW H} {ps : List MemPlace} {ts : List TypeId} {ds : List (DataW H)} {jj : Nat}
    (hsz : (DataW.weightsEach P ts ds).all (· ≤ reachBytes) = true) (ht : ts[jj]? = some t) (hd : ds[jj]? = some d)
    (hu : P.underlying t = some (.slice e)) (he : P.underlying e = some (.struct #[f0, f1, f2, f3, f4, f5, f6])) (hc : P.cellsOf e = 7)
    (h0 : P.underlying f0.type = some (.int .i64)) (h1 : P.underlying f1.type = some (.int .i64)) (h2 : P.underlying f2.type = some (.int .i64)) (h3 : P.underlying f3.type = some .bool)
    (h4 : P.underlying f4.type = some (.slice te)) (h4e : P.underlying te = some (.int .u8)) (h4c : P.cellsOf te = 1) (h4b : P.bytesOf te = 1) (h5 : P.underlying f5.type = some (.int .i64)) (h6 : P.underlying f6.type = some (.int .u32))
    (o0 : f0.offset = 0 ∧ f1.offset = 1 ∧ f2.offset = 2 ∧ f3.offset = 3 ∧ f4.offset = 4 ∧ f5.offset = 5 ∧ f6.offset = 6)
    (c0 : P.cellsOf f0.type = 1 ∧ P.cellsOf f1.type = 1 ∧ P.cellsOf f2.type = 1 ∧ P.cellsOf f3.type = 1 ∧ P.cellsOf f4.type = 1 ∧ P.cellsOf f5.type = 1 ∧ P.cellsOf f6.type = 1)
    (h : DataW.Trod enc P W base spare held t (.slice a len cap) d ps) :
    ∃ l : List OpM, OpsAt W W.heap.size a len l := by
  obtain ⟨fuel, hf⟩ := h
  rcases Go.Deep.open_slice hu hf with ⟨hcs, _⟩ | ⟨x, l, c, m, n, D, Pl, hcs, _, hl, _, hm, hx, heach⟩
  · simp [Value.cells] at hcs
    obtain ⟨rfl, rfl, rfl⟩ := hcs
    exact ⟨[], rfl, fun h => absurd h (by omega)⟩
  · simp [Value.cells] at hcs
    obtain ⟨rfl, rfl, rfl⟩ := hcs
    have hlm : len ≤ m := by rw [hm]; split <;> omega
    obtain ⟨hxd, _⟩ := Prod.mk.inj hx
    have each : ∀ i, ∃ o : OpM, i < len → OpAt W W.heap.size x i o := by
      intro i
      by_cases hi : i < len
      · obtain ⟨cs, h7, htr⟩ := heach i (by omega)
        have hblk := World.cells?_block h7 (by rw [hc]; omega)
        rw [hc] at h7
        obtain ⟨_, hlen, hcell⟩ := World.cells?_some h7
        obtain ⟨y0, y1, y2, y3, y4, y5, y6, k, hD, _, t0, t1, t2, t3, t4, t5, t6⟩ := trod_struct7 he htr
        obtain ⟨a0, a1, a2, a3, a4, a5, a6⟩ := o0
        obtain ⟨b0, b1, b2, b3, b4, b5, b6⟩ := c0
        rw [a0, b0] at t0
        rw [a1, b1] at t1
        rw [a2, b2] at t2
        rw [a3, b3] at t3
        rw [a4, b4] at t4
        rw [a5, b5] at t5
        rw [a6, b6] at t6
        match cs, hlen with
        | [v0, v1, v2, v3, v4, v5, v6], _ =>
          obtain ⟨z0, e0, _, w0⟩ := DataW.trod_int h0 t0
          obtain ⟨z1, e1, _, w1⟩ := DataW.trod_int h1 t1
          obtain ⟨z2, e2, _, w2⟩ := DataW.trod_int h2 t2
          obtain ⟨z3, e3, _⟩ := DataW.trod_bool h3 t3
          obtain ⟨z5, e5, _, w5⟩ := DataW.trod_int h5 t5
          obtain ⟨z6, e6, _, w6⟩ := DataW.trod_int h6 t6
          simp at e0 e1 e2 e3 e5 e6
          subst e0 e1 e2 e3 e5 e6
          have t4' : DataW.trod enc P W base spare held k f4.type [v4] = some y4 := by simpa using t4
          obtain ⟨A4, n4, c4, rfl⟩ : ∃ A n c, v4 = .slice A n c := by
            rcases Go.Deep.open_slice h4 t4' with ⟨h, _⟩ | ⟨x', l', c', _, _, _, _, h, _⟩
            · simp at h; exact ⟨_, _, _, h⟩
            · simp at h; exact ⟨_, _, _, h⟩
          have ht4 : DataW.Trod enc P W base spare held f4.type (.slice A4 n4 c4) y4.1 y4.2 := ⟨k, by simpa [Value.cells] using t4'⟩
          obtain ⟨zs, zl, hr, wz, hle, _, hnn⟩ := reads_ints h4 h4e h4c ht4
          have hbl : (bytesOf zs).length = n4 := by simp [bytesOf, zl]
          have hbig : n4 ≤ 140737488351232 := by
            rcases Go.Deep.open_slice h4 t4' with ⟨h, _⟩ | ⟨x', l', c', m', _, D', _, h, _, hl', _, hm', hx', _⟩
            · simp at h; omega
            · simp at h
              obtain ⟨rfl, rfl, rfl⟩ := h
              have hy4 : y4.1 = .slice ((List.range n4).map D') ((List.range (m' - n4)).map fun j => D' (n4 + j)) := (Prod.mk.inj hx').1
              have hmem : D i ∈ (List.range len).map D := List.mem_map.2 ⟨i, List.mem_range.2 hi, rfl⟩
              have hDi : D i = .agg [y0.1, y1.1, y2.1, y3.1, y4.1, y5.1, y6.1] := (Prod.mk.inj hD).1
              have hw : (((List.range n4).map D').length + ((List.range (m' - n4)).map fun j => D' (n4 + j)).length) * P.bytesOf te ∈ DataW.weightsEach P ts ds := by
                refine DataW.weights_mem_each ht hd _ ?_
                rw [hxd]
                simp only [DataW.weights, hu, List.mem_cons, List.mem_append]
                refine .inr (.inl (weightsAll_mem hmem _ ?_))
                rw [hDi]
                simp only [DataW.weights, he]
                refine DataW.weights_mem_each (j := 4) (t := f4.type) rfl (d := y4.1) rfl _ ?_
                rw [hy4]
                simp [DataW.weights, h4]
              have := List.all_eq_true.1 hsz _ hw
              rw [h4b] at this
              simp [reachBytes] at this
              omega
          refine ⟨⟨z0, z1, z2, z3, bytesOf zs, z5, z6⟩, fun _ => ⟨⟨?_, wf_u32 w6, ?_⟩, by simp only [hbl]; exact hbig, A4, c4, ?_, ?_, ?_, ?_⟩⟩
          · have := wf_i64 w5; exact ⟨this.1, by simp only; omega⟩
          · have := wf_i64 w1; exact ⟨this.1, by simp only; omega⟩
          · intro j u hu'
            have hj : j < 7 := (Array.getElem?_eq_some_iff.1 hu').1
            rw [← add_of_add, hcell j hj]
            simp only [hbl] at hu'
            simpa [opCells] using hu'
          · simp only [hbl]
            exact reads_bytes hr wz
          · simp only [hbl]; exact hle
          · intro hA
            simp only [hbl]
            have := hnn hA
            omega
      · exact ⟨⟨0, 0, 0, false, [], 0, 0⟩, fun h => absurd h hi⟩
    refine ⟨(List.range len).map (fun i => Classical.choose (each i)), by simp, fun hn => ⟨x, rfl, ?_, ?_⟩⟩
    · obtain ⟨cs, h7, _⟩ := heach 0 (by omega)
      have := World.cells?_block h7 (by rw [hc]; omega)
      rwa [block_of_add] at this
    · intro i o ho
      have hi : i < len := by
        have := (List.getElem?_eq_some_iff.1 ho).1
        simpa using this
      rw [List.getElem?_map, List.getElem?_range hi] at ho
      simp only [Option.map_some, Option.some.injEq] at ho
      rw [← ho]
      exact Classical.choose_spec (each i) hi
end
end Go.Proofs.YtbkkfkbgcklkgaaGreat
