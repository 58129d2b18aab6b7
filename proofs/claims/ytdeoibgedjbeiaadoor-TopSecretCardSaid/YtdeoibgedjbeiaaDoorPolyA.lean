/- The walks of package poly: folds, digits, sums, products, values. -/
import Derived.Test.YtdeoibgedjbeiaaDoorFieldE
import Derived.Test.YtdeoibgedjbeiaaDoorPolyM
namespace Go.Proofs.YtdeoibgedjbeiaaDoor
open Go.RowKit

/-- a function is entered -/
def Enters (f : FuncId) : Prop := ∀ (args : Array Value) (w : World), (callFunc f args).run Tryd.prog w = .ok (.enter f args) w

/-- a fold of integers with whatever is handed in, by what holds of each of its steps -/
theorem fold_int {B n : Nat} {A : Option Addr} (c : Nat) {l : List Int} {w : World} (hn : n ≤ maxLen) (hl : l.length = n) (f : FuncId) (hcf0 : Enters f) (cap : Array Value) (s0 : Int) (I : Nat → Int → World → Prop)
    (h0 : I 0 s0 w) (hread : ∀ k s wr, I k s wr → KH.Reads wr B 1 A n (l.map (.int .i64)))
    (hstep : ∀ k s x wr, k < n → l[k]? = some x → I k s wr → Calls Tryd.prog f (#[.int .i64 s, .int .i64 x] ++ cap) wr fun e w' => ∃ s', e = .returned (.int .i64 s') ∧ I (k + 1) s' w') :
    Calls Tryd.prog 32 #[.slice A n c, .int .i64 s0, .func (.func f) #[] cap] w fun e w' => ∃ s, e = .returned (.int .i64 s) ∧ I n s w' := by
  unfold maxLen at hn
  have hcf : ∀ (args : Array Value) (w : World), (callFunc f args).run Tryd.prog w = .ok (.enter f args) w := hcf0
  clear hcf0
  go_enter Tryd.func32, Tryd.ntmps32
  go_wp2
  go_loopw [1, 11] (fun s i wr => ∃ (k : Nat) (z : Int), k ≤ n ∧ i = .int .i64 k ∧ s = .int .i64 z ∧ I k z wr) (fun _ i _ => n - (intOf i).toNat)
  case atStart => exact ⟨0, s0, Nat.zero_le _, rfl, rfl, h0⟩
  case round =>
    obtain ⟨k, z, hk, rfl, rfl, hI⟩ := hrel
    by_cases hlt : k < n
    · obtain ⟨ad, x, rfl, _, hx, hc⟩ := (hread k z wr hI).int hlt
      have HS := KH.hid (hstep k z x wr hlt hx hI)
      clear hx hstep hread hI
      go_wp2_with fail
      refine HS.out.mono ?_; rintro e w1 ⟨z', rfl, hI'⟩
      have HI := KH.hid hI'; clear hI'
      go_wp2
      go_roundw
      case rel => exact ⟨k + 1, z', by omega, by go_num, rfl, HI.out⟩
      case measure => simp [intOf]; omega
    · obtain rfl : k = n := by omega
      have HI := KH.hid hI
      clear hstep hread hI h0
      go_wp2
      go_ret
      exact ⟨z, rfl, HI.out⟩

/-- a fold of bools -/
theorem fold_bool {B n : Nat} {A : Option Addr} (c : Nat) {l : List Int} {w : World} (hn : n ≤ maxLen) (hl : l.length = n) (f : FuncId) (hcf0 : Enters f) (cap : Array Value) (s0 : Bool) (I : Nat → Bool → World → Prop)
    (h0 : I 0 s0 w) (hread : ∀ k s wr, I k s wr → KH.Reads wr B 1 A n (l.map (.int .i64)))
    (hstep : ∀ k s x wr, k < n → l[k]? = some x → I k s wr → Calls Tryd.prog f (#[.bool s, .int .i64 x] ++ cap) wr fun e w' => ∃ s', e = .returned (.bool s') ∧ I (k + 1) s' w') :
    Calls Tryd.prog 43 #[.slice A n c, .bool s0, .func (.func f) #[] cap] w fun e w' => ∃ s, e = .returned (.bool s) ∧ I n s w' := by
  unfold maxLen at hn
  have hcf : ∀ (args : Array Value) (w : World), (callFunc f args).run Tryd.prog w = .ok (.enter f args) w := hcf0
  clear hcf0
  go_enter Tryd.func43, Tryd.ntmps43
  go_wp2
  go_loopw [1, 11] (fun s i wr => ∃ (k : Nat) (z : Bool), k ≤ n ∧ i = .int .i64 k ∧ s = .bool z ∧ I k z wr) (fun _ i _ => n - (intOf i).toNat)
  case atStart => exact ⟨0, s0, Nat.zero_le _, rfl, rfl, h0⟩
  case round =>
    obtain ⟨k, z, hk, rfl, rfl, hI⟩ := hrel
    by_cases hlt : k < n
    · obtain ⟨ad, x, rfl, _, hx, hc⟩ := (hread k z wr hI).int hlt
      have HS := KH.hid (hstep k z x wr hlt hx hI)
      clear hx hstep hread hI
      go_wp2_with fail
      refine HS.out.mono ?_; rintro e w1 ⟨z', rfl, hI'⟩
      have HI := KH.hid hI'; clear hI'
      go_wp2
      go_roundw
      case rel => exact ⟨k + 1, z', by omega, by go_num, rfl, HI.out⟩
      case measure => simp [intOf]; omega
    · obtain rfl : k = n := by omega
      have HI := KH.hid hI
      clear hstep hread hI h0
      go_wp2
      go_ret
      exact ⟨z, rfl, HI.out⟩

/-- are all digits? -/
def allB (l : List Int) : Bool := l.all dgB

theorem digit_step (b : Bool) (x : Int) (w : World) :
    Calls Tryd.prog 44 #[.bool b, .int .i64 x] w fun e w' => e = .returned (.bool (b && dgB x)) ∧ w = w' := by
  by_cases h0 : 0 ≤ x
  · by_cases h1 : x ≤ 255
    · have HG : Hid ((b && dgB x) = b) := by unfold Hid dgB; rw [decide_eq_true ⟨h0, h1⟩, Bool.and_true]
      cases b
      all_goals
        go_enter Tryd.func44, Tryd.ntmps44
        go_wp2
        go_ret
        exact ⟨KH.ret_bool HG.out.symm, rfl⟩
    · have HG : Hid ((b && dgB x) = false) := by unfold Hid dgB; rw [decide_eq_false (by omega), Bool.and_false]
      have hd : decide (x ≤ 255) = false := by simp; omega
      cases b
      all_goals
        go_enter Tryd.func44, Tryd.ntmps44
        go_wp2
        go_ret
        exact ⟨KH.ret_bool HG.out.symm, rfl⟩
  · have HG : Hid ((b && dgB x) = false) := by unfold Hid dgB; rw [decide_eq_false (by omega), Bool.and_false]
    have hd : decide (0 ≤ x) = false := by simp; omega
    cases b
    all_goals
      go_enter Tryd.func44, Tryd.ntmps44
      go_wp2
      go_ret
      exact ⟨KH.ret_bool HG.out.symm, rfl⟩

theorem take_all (p : Int → Bool) (l : List Int) (k : Nat) (x : Int) (h : l[k]? = some x) : (l.take (k + 1)).all p = ((l.take k).all p && p x) := by
  rw [List.take_add_one, h, List.all_append]; simp

theorem digits_any {B n : Nat} {A : Option Addr} (c : Nat) {l : List Int} {w : World} (h : KH.Reads w B 1 A n (l.map (.int .i64))) (hn : n ≤ maxLen) :
    Calls Tryd.prog 31 #[.slice A n c] w fun e w' => e = .returned (.bool (allB l)) ∧ w = w' := by
  have hl : l.length = n := by have := h.1; simpa using this
  have hf : Enters 44 := fun _ _ => rfl
  have HF := KH.hid (fold_bool c hn hl 44 hf #[] true (fun k s wr => s = (l.take k).all dgB ∧ w = wr) ⟨rfl, rfl⟩ (fun k s wr hI => hI.2 ▸ h) (fun k s x wr hk hx hI => by
    refine (digit_step s x wr).mono fun e w' ⟨he, hw⟩ => ⟨_, he, ?_, hI.2.trans hw⟩
    rw [take_all _ _ _ _ hx, hI.1]))
  have HT : Hid ((l.take n).all dgB = allB l) := by unfold Hid; rw [List.take_of_length_le (by omega)]; rfl
  clear hl
  go_enter Tryd.func31, Tryd.ntmps31
  go_wp2_with fail
  refine HF.out.mono ?_; rintro e w' ⟨s, rfl, rfl, rfl⟩
  rw [HT.out]
  go_wp2
  go_ret
  exact ⟨rfl, rfl⟩

theorem padd_in (a b : Nat) (w : World) (ha : a < 256) (hb : b < 256) :
    Calls Tryd.prog 34 #[.int .i64 a, .int .i64 b] w fun e w' => e = .returned (.int .i64 (a ^^^ b : Nat)) ∧ w = w' := by
  go_enter Tryd.func34, Tryd.ntmps34
  go_wp2_with fail
  refine (fadd_in _ _ _ (by omega) (by omega) (by omega) (by omega)).mono ?_; rintro e w' ⟨rfl, rfl⟩
  rw [Int.toNat_natCast, Int.toNat_natCast]
  go_wp2
  go_ret
  exact ⟨rfl, rfl⟩

theorem pmul_in (b x y : Nat) (w : World) (h : FieldAt b w) (hx : x < 256) (hy : y < 256) :
    Calls Tryd.prog 35 #[.pointer (some ⟨b, 0, none⟩), .int .i64 x, .int .i64 y] w fun e w' => e = .returned (.int .i64 (KH.mul x y : Nat)) ∧ ∃ n, w' = w.drewN n := by
  go_enter Tryd.func35, Tryd.ntmps35
  go_wp2_with fail
  refine (mul_in _ _ _ _ h (by omega) (by omega) (by omega) (by omega)).mono ?_; rintro e w' ⟨rfl, n, rfl⟩
  rw [Int.toNat_natCast, Int.toNat_natCast]
  go_wp2
  go_ret
  exact ⟨rfl, _, rfl⟩

theorem eval_step (b s a p x gf gp gx : Nat) (w : World) (h : FieldAt b w) (hs : s < 256) (ha : a < 256) (hp : p < 256) (hx : x < 256)
    (cf : w.cell? ⟨gf, 0, none⟩ = some (.pointer (some ⟨b, 0, none⟩))) (cp : w.cell? ⟨gp, 0, none⟩ = some (.int .i64 p)) (cx : w.cell? ⟨gx, 0, none⟩ = some (.int .i64 x)) (fp : w.frozen? ⟨gp, 0, none⟩ = false) :
    Calls Tryd.prog 33 #[.int .i64 s, .int .i64 a, .pointer (some ⟨gf, 0, none⟩), .pointer (some ⟨gp, 0, none⟩), .pointer (some ⟨gx, 0, none⟩)] w
      fun e w' => e = .returned (.int .i64 (s ^^^ KH.mul a p : Nat)) ∧ ∃ q, w' = (w.setCell ⟨gp, 0, none⟩ (.int .i64 (KH.mul p x : Nat))).drewN q := by
  have hm := KH.mul_lt a p
  go_enter Tryd.func33, Tryd.ntmps33
  go_wp2_with fail
  refine (pmul_in _ _ _ _ h ha hp).mono ?_; rintro e w' ⟨rfl, n1, rfl⟩
  go_wp2_with fail
  refine (padd_in _ _ _ hs hm).mono ?_; rintro e w' ⟨rfl, rfl⟩
  go_wp2_with fail
  refine (pmul_in _ _ _ _ (h.drewN _) hp hx).mono ?_; rintro e w' ⟨rfl, n2, rfl⟩
  go_wp2
  go_ret
  exact ⟨rfl, _, rfl⟩

theorem reads_one (w : World) (x : Int) (t : TypeId) (g : Nat) (hg : w.heap.size = g) : KH.Reads (w.alloc (.cells #[.int .i64 x] t)) (g + 1) 1 (some ⟨g, 0, none⟩) 1 ([x].map (.int .i64)) := by
  subst hg
  refine ⟨rfl, fun _ => ⟨_, rfl, by show w.heap.size < _; omega, fun j u hu => ?_⟩⟩
  match j, hu with
  | 0, hu => simp at hu; subst hu; simp [Addr.add]

/-- is a polynomial valued? -/
def evalK (l : List Int) (x : Int) : Bool := decide (l.length ≤ 255) && allB l && dgB x
def nats (l : List Int) : List Nat := l.map Int.toNat
/-- the value told -/
def evalV (l : List Int) (x : Int) : Int := if evalK l x then ((KH.ev (nats l) x.toNat : Nat) : Int) else 0

theorem allB_iff {l : List Int} : allB l = true ↔ ∀ x ∈ l, 0 ≤ x ∧ x ≤ 255 := by unfold allB dgB; simp
theorem dg_nats {l : List Int} (h : allB l = true) : KH.Dg (nats l) := by
  intro a ha
  obtain ⟨x, hx, rfl⟩ := List.mem_map.1 ha
  have := allB_iff.1 h x hx
  omega
theorem nats_length (l : List Int) : (nats l).length = l.length := List.length_map _
theorem nats_get {l : List Int} (h : allB l = true) {k : Nat} {x : Int} (hx : l[k]? = some x) : x = (((nats l).getD k 0 : Nat) : Int) := by
  have := allB_iff.1 h x (List.mem_of_getElem? hx)
  unfold nats
  rw [List.getD, List.getElem?_map, hx]
  show x = ((x.toNat : Nat) : Int)
  omega

theorem eval_no {B n : Nat} {A : Option Addr} (c : Nat) {l : List Int} {w : World} (h : KH.Reads w B 1 A n (l.map (.int .i64))) (hB : B ≤ w.heap.size) (hn : n ≤ maxLen) (x : Int) (hk : evalK l x = false) :
    Calls Tryd.prog 16 #[.slice A n c, .int .i64 x] w fun e w' => e = .returned (.tuple #[.int .i64 0, .bool false]) ∧ Below w.heap.size w w' := by
  have hl : l.length = n := by have := h.1; simpa using this
  have hm : n ≤ 9223372036854775807 := by unfold maxLen at hn; omega
  have h' := h.alloc hB (.cells #[.int .i64 x] 3)
  have hb : Below w.heap.size w (w.alloc (.cells #[.int .i64 x] 3)) := (Below.refl _ _).alloc (Nat.le_refl _) _
  unfold evalK at hk
  by_cases h255 : n ≤ 255
  · rw [hl, decide_eq_true h255, Bool.true_and] at hk
    clear hl
    cases ha : allB l
    · clear hk
      go_enter Tryd.func16, Tryd.ntmps16
      go_wp2_with fail
      refine (digits_any _ h' hn).mono ?_; rintro e w' ⟨rfl, rfl⟩
      rw [ha]
      go_wp2
      go_ret2
      exact ⟨rfl, hb⟩
    · rw [ha, Bool.true_and] at hk
      have H1 : allB [x] = false := by unfold allB; simp [hk]
      clear hk
      have h1 := reads_one (w.alloc (.cells #[.int .i64 x] 3)) x 3 (w.heap.size + 1) (by simp)
      go_enter Tryd.func16, Tryd.ntmps16
      go_wp2_with fail
      refine (digits_any _ h' hn).mono ?_; rintro e w' ⟨rfl, rfl⟩
      rw [ha]
      go_wp2_with fail
      refine (digits_any _ h1 (by unfold maxLen; omega)).mono ?_; rintro e w' ⟨rfl, rfl⟩
      rw [H1]
      go_wp2
      go_ret2
      exact ⟨rfl, hb.alloc (by simp) _⟩
  · clear hl hk
    go_enter Tryd.func16, Tryd.ntmps16
    go_wp2
    go_ret2
    exact ⟨rfl, hb⟩

/-- what holds of Eval's fold before its step k -/
structure EvalTo (l : List Nat) (x b gf gp gx : Nat) (W : World) (k : Nat) (s : Int) (w : World) : Prop where
  below : Below gp W w
  pow : ∃ p z : Nat, p < 256 ∧ z < 256 ∧ s = (z : Int) ∧ w.cell? ⟨gp, 0, none⟩ = some (.int .i64 p) ∧ z ^^^ KH.mul p (KH.ev (l.drop k) x) = KH.ev l x
  free : w.frozen? ⟨gp, 0, none⟩ = false

theorem eval_law (z p a x t e : Nat) (hp : p < 256) (ha : a < 256) (h : z ^^^ KH.mul p (a ^^^ KH.mul x t) = e) : (z ^^^ KH.mul a p) ^^^ KH.mul (KH.mul p x) t = e := by
  rw [← h, KH.mul_xor hp ha (KH.mul_lt _ _), ← KH.mul_assoc, KH.mul_comm a p, Nat.xor_assoc]

theorem EvalTo.step {l : List Nat} {x b gf gp gx : Nat} {W : World} (hF : FieldAt b W) (hb : b < gp) (hd : KH.Dg l) (hx : x < 256) (cf : W.cell? ⟨gf, 0, none⟩ = some (.pointer (some ⟨b, 0, none⟩))) (cx : W.cell? ⟨gx, 0, none⟩ = some (.int .i64 x))
    (hgf : gf < gp) (hgx : gx < gp) {k : Nat} {s : Int} {w : World} (hk : k < l.length) (h : EvalTo l x b gf gp gx W k s w) :
    Calls Tryd.prog 33 #[.int .i64 s, .int .i64 (l.getD k 0 : Nat), .pointer (some ⟨gf, 0, none⟩), .pointer (some ⟨gp, 0, none⟩), .pointer (some ⟨gx, 0, none⟩)] w fun e w' => ∃ s', e = .returned (.int .i64 s') ∧ EvalTo l x b gf gp gx W (k + 1) s' w' := by
  obtain ⟨hbl, ⟨p, z, hp, hz, rfl, hc, he⟩, hfr⟩ := h
  have hF' : FieldAt b w := ⟨fun j hj => by rw [hbl.cell (p := ⟨b, j, none⟩) hb]; exact hF.num j hj, fun j hj => by rw [hbl.cell (p := ⟨b, 256 + j, none⟩) hb]; exact hF.dig j hj⟩
  refine (eval_step b z (l.getD k 0) p x gf gp gx w hF' hz (hd.getD k) hp hx ((hbl.cell (p := ⟨gf, 0, none⟩) hgf).trans cf) hc ((hbl.cell (p := ⟨gx, 0, none⟩) hgx).trans cx) hfr).mono fun e w' ⟨he', q, hw⟩ => ⟨_, he', ?_⟩
  subst hw
  rw [KH.ev_drop l x k hk] at he
  refine ⟨below_drewN (hbl.setCell (p := ⟨gp, 0, none⟩) (Nat.le_refl _) _) q, ⟨KH.mul p x, z ^^^ KH.mul (l.getD k 0) p, KH.mul_lt _ _, KH.xor_lt hz (KH.mul_lt _ _), rfl, ?_, eval_law z p _ x _ _ hp (hd.getD k) he⟩, ?_⟩
  · show (w.setCell _ _).cell? _ = _
    exact KH.cell_put_same hc
  · show (w.setCell _ _).frozen? _ = _
    rw [World.frozen?_setCell]; exact hfr

theorem eval_fold {B n : Nat} {A : Option Addr} (c : Nat) {l : List Int} {W : World} (h : KH.Reads W B 1 A n (l.map (.int .i64))) (hn : n ≤ maxLen) (ha : allB l = true) {x b gf gp gx : Nat} (hB : B ≤ gp) (hF : FieldAt b W) (hb : b < gp) (hx : x < 256)
    (cf : W.cell? ⟨gf, 0, none⟩ = some (.pointer (some ⟨b, 0, none⟩))) (cp : W.cell? ⟨gp, 0, none⟩ = some (.int .i64 1)) (cx : W.cell? ⟨gx, 0, none⟩ = some (.int .i64 x)) (fp : W.frozen? ⟨gp, 0, none⟩ = false) (hgf : gf < gp) (hgx : gx < gp) :
    Calls Tryd.prog 32 #[.slice A n c, .int .i64 0, .func (.func 33) #[] #[.pointer (some ⟨gf, 0, none⟩), .pointer (some ⟨gp, 0, none⟩), .pointer (some ⟨gx, 0, none⟩)]] W
      fun e w' => e = .returned (.int .i64 (KH.ev (nats l) x : Nat)) ∧ Below gp W w' := by
  have hl : l.length = n := by have := h.1; simpa using this
  have hd := dg_nats ha
  have hnl : (nats l).length = n := by rw [nats_length, hl]
  refine (fold_int (B := B) c hn hl 33 (fun _ _ => rfl) _ 0 (fun k s wr => EvalTo (nats l) x b gf gp gx W k s wr) ?_ (fun k s wr hI => h.below (hI.below.mono hB)) (fun k s z wr hk hz hI => ?_)).mono fun e w' ⟨s, he, hI⟩ => ?_
  · refine ⟨Below.refl _ _, ⟨1, 0, by omega, by omega, rfl, cp, ?_⟩, fp⟩
    rw [Nat.zero_xor, KH.one_mul (KH.ev_lt (by simpa using hd) _)]; rfl
  · rw [nats_get ha hz]
    exact EvalTo.step hF hb hd hx cf cx hgf hgx (by omega) hI
  · obtain ⟨hbl, ⟨p, z, hp, hz, rfl, hc, hev⟩, _⟩ := hI
    rw [List.drop_of_length_le (by omega)] at hev
    refine ⟨?_, hbl⟩
    rw [he, ← hev]
    show _ = Ending.returned (.int .i64 ((z ^^^ KH.mul p 0 : Nat) : Int))
    rw [KH.mul_zero, Nat.xor_zero]

set_option maxRecDepth 100000 in
theorem eval_yes {n : Nat} {A : Option Addr} (c : Nat) {l : List Int} {w : World} (h : KH.Reads w w.heap.size 1 A n (l.map (.int .i64))) (x : Int) (hk : evalK l x = true) :
    Calls Tryd.prog 16 #[.slice A n c, .int .i64 x] w fun e w' => e = .returned (.tuple #[.int .i64 (evalV l x), .bool true]) ∧ Below w.heap.size w w' := by
  have hl : l.length = n := by have := h.1; simpa using this
  have HV : Hid (evalV l x = ((KH.ev (nats l) x.toNat : Nat) : Int)) := by unfold Hid evalV; rw [hk]; rfl
  unfold evalK at hk
  simp only [Bool.and_eq_true, decide_eq_true_iff] at hk
  obtain ⟨⟨h255, ha⟩, hx⟩ := hk
  have hn : n ≤ maxLen := by unfold maxLen; omega
  have hm : n ≤ 255 := by omega
  have h1x : allB [x] = true := by unfold allB; simp [hx]
  have hx' : 0 ≤ x ∧ x ≤ 255 := by unfold dgB at hx; simpa using hx
  have hd := dg_nats ha
  have HL := KH.hid hl
  have HA := KH.hid ha
  clear hx h255 hl
  obtain ⟨y, rfl⟩ := Int.eq_ofNat_of_zero_le hx'.1
  rw [Int.toNat_natCast] at HV
  have hy : y < 256 := by omega
  clear hx'
  rw [HV.out]
  have h' := h.alloc (Nat.le_refl _) (.cells #[.int .i64 y] 3)
  have hb : Below w.heap.size w (w.alloc (.cells #[.int .i64 y] 3)) := (Below.refl _ _).alloc (Nat.le_refl _) _
  have h1 := reads_one (w.alloc (.cells #[.int .i64 y] 3)) y 3 (w.heap.size + 1) (by simp)
  go_enter Tryd.func16, Tryd.ntmps16
  go_wp2_with fail
  refine (digits_any _ h' hn).mono ?_; rintro e w' ⟨rfl, rfl⟩
  rw [ha]
  clear ha
  go_wp2_with fail
  refine (digits_any _ h1 (by unfold maxLen; omega)).mono ?_; rintro e w' ⟨rfl, rfl⟩
  rw [h1x]
  clear h1x
  go_wp2_with fail
  refine (new_any _).mono ?_; rintro e w1 ⟨rfl, hF, hb1, hs⟩
  have hz0 : ((w.alloc (.cells #[.int .i64 y] 3)).alloc (.cells #[.int .i64 y] 3)).heap.size = w.heap.size + 1 + 1 := by simp
  have hbx := ((Below.refl w.heap.size w).alloc (Nat.le_refl _) (.cells #[.int .i64 y] 3)).alloc (by simp) (.cells #[.int .i64 y] 3)
  have hcx : ((w.alloc (.cells #[.int .i64 y] 3)).alloc (.cells #[.int .i64 y] 3)).cell? ⟨w.heap.size, 0, none⟩ = some (.int .i64 y) := by simp
  generalize ((w.alloc (.cells #[.int .i64 y] 3)).alloc (.cells #[.int .i64 y] 3)) = W2 at *
  have hzl : w.heap.size + 1 + 1 ≤ W2.heap.size := by omega
  clear hz0
  have hcx1 := (hb1.cell (p := ⟨w.heap.size, 0, none⟩) (by show w.heap.size < _; omega)).trans hcx
  have hw1 := hbx.trans (hb1.mono (by omega))
  have hb3 := (Below.refl w1.heap.size w1).alloc (Nat.le_refl _) (.cells #[.pointer (some ⟨W2.heap.size, 0, none⟩)] 55)
  have hb4 := hb3.alloc (by simp) (.cells #[.int .i64 1] 3)
  have hF4 := hF.below hb4 hs
  have hc4 := (hb4.cell (p := ⟨w.heap.size, 0, none⟩) (by show w.heap.size < _; omega)).trans hcx1
  have hr4 := (h.below hw1).below (hb4.mono (by have := hw1.size; omega))
  have HFOLD := KH.hid (eval_fold (gf := w1.heap.size) (gp := w1.heap.size + 1) c hr4 hn HA.out (by have := hw1.size; omega) hF4 (by omega) hy (by simp) (by simp) hc4 (by simp) (by omega) (by omega))
  have HB := KH.hid (hw1.trans (hb4.mono (by have := hw1.size; omega)))
  have HZ := KH.hid (show w.heap.size ≤ w1.heap.size + 1 by have := hw1.size; omega)
  clear hF4 hc4 hr4 hb3 hb4 hw1 hcx1 hcx hbx
  go_wp2_with fail
  refine HFOLD.out.mono ?_; rintro e w5 ⟨rfl, hb5⟩
  go_wp2
  go_ret2
  exact ⟨rfl, HB.out.trans (hb5.mono HZ.out)⟩

theorem eval_told {n : Nat} {A : Option Addr} (c : Nat) {l : List Int} {w : World} (h : KH.Reads w w.heap.size 1 A n (l.map (.int .i64))) (hn : n ≤ maxLen) (x : Int) :
    Calls Tryd.prog 16 #[.slice A n c, .int .i64 x] w fun e w' => e = .returned (.tuple #[.int .i64 (evalV l x), .bool (evalK l x)]) ∧ Below w.heap.size w w' := by
  cases hk : evalK l x
  · refine (eval_no c h (Nat.le_refl _) hn x hk).mono fun e w' ⟨he, hw⟩ => ⟨?_, hw⟩
    rw [he]; unfold evalV; rw [hk]; rfl
  · exact eval_yes c h x hk
end Go.Proofs.YtdeoibgedjbeiaaDoor
