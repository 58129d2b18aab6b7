import Derived.Test.YtlnilfcjcoclhaaGreatDoorStD
/- Package tag: rows of five digits. -/
namespace Go.Proofs.YtlnilfcjcoclhaaGreatDoor
open Go.RowKit

/-- five digits -/
def S5 (F : Nat → Nat) : Array Value := #[.int .i64 (F 0 : Nat), .int .i64 (F 1 : Nat), .int .i64 (F 2 : Nat), .int .i64 (F 3 : Nat), .int .i64 (F 4 : Nat)]
theorem S5_eq (F : Nat → Nat) : (bzW 5 F).toArray = S5 F := by kernel_rfl
theorem cell5 {w : World} {g p : Nat} {t : TypeId} {F : Nat → Nat} (h : KH.Blk w g t (S5 F)) (hp : p < 5) : w.cell? ⟨g, p, none⟩ = some (.int .i64 (F p : Nat)) := by
  rw [← S5_eq] at h
  exact (h.cell p).trans ((List.getElem?_toArray).trans (bzW_get _ hp))
theorem set5 {w : World} {g p v : Nat} {t : TypeId} {F : Nat → Nat} (h : KH.Blk w g t (S5 F)) : KH.Blk (w.setCell ⟨g, p, none⟩ (.int .i64 (v : Nat))) g t (S5 fun q => if q = p then v else F q) := by
  rw [← S5_eq] at h ⊢
  have := h.set_ p (.int .i64 (v : Nat))
  rwa [List.setIfInBounds_toArray, bzW_set] at this
theorem S5_congr {F G : Nat → Nat} (h : ∀ p, p < 5 → F p = G p) : S5 F = S5 G := by
  unfold S5; rw [h 0 (by omega), h 1 (by omega), h 2 (by omega), h 3 (by omega), h 4 (by omega)]
theorem z5 : (#[.int .i64 0, .int .i64 0, .int .i64 0, .int .i64 0, .int .i64 0] : Array Value) = S5 fun _ => 0 := rfl
theorem ret5 {fn : Func} {k h : Nat} {w w0 : World} {F G : Nat → Nat} {a : Act} (hr : fn.results = #[.cell k 173]) (hk : KH.Blk w h 173 (S5 G)) (hh : w0.heap.size ≤ h) (hB : Below w0.heap.size w0 w)
    (hp : a.tmps.getD k undef = .pointer (some ⟨h, 0, none⟩)) (hd : a.defers = []) :
    bodyPost Tryz.prog fn (fun e w' => e = .returned (.agg (S5 F)) ∧ Below w0.heap.size w0 w') .ret a (((((w.setCell ⟨h, 0, none⟩ (.int .i64 (F 0 : Nat))).setCell ⟨h, 1, none⟩ (.int .i64 (F 1 : Nat))).setCell ⟨h, 2, none⟩ (.int .i64 (F 2 : Nat))).setCell ⟨h, 3, none⟩ (.int .i64 (F 3 : Nat))).setCell ⟨h, 4, none⟩ (.int .i64 (F 4 : Nat))) := by
  have b := ((((hB.setCell (p := ⟨h, 0, none⟩) hh (.int .i64 (F 0 : Nat))).setCell (p := ⟨h, 1, none⟩) hh (.int .i64 (F 1 : Nat))).setCell (p := ⟨h, 2, none⟩) hh (.int .i64 (F 2 : Nat))).setCell (p := ⟨h, 3, none⟩) hh (.int .i64 (F 3 : Nat))).setCell (p := ⟨h, 4, none⟩) hh (.int .i64 (F 4 : Nat))
  have h5 := set5 (p := 4) (v := F 4) (set5 (p := 3) (v := F 3) (set5 (p := 2) (v := F 2) (set5 (p := 1) (v := F 1) (set5 (p := 0) (v := F 0) hk))))
  generalize ((((w.setCell ⟨h, 0, none⟩ (.int .i64 (F 0 : Nat))).setCell ⟨h, 1, none⟩ (.int .i64 (F 1 : Nat))).setCell ⟨h, 2, none⟩ (.int .i64 (F 2 : Nat))).setCell ⟨h, 3, none⟩ (.int .i64 (F 3 : Nat))).setCell ⟨h, 4, none⟩ (.int .i64 (F 4 : Nat)) = W at *
  have c0 : W.cell? ⟨h, 0, none⟩ = some (.int .i64 (F 0 : Nat)) := cell5 h5 (by omega)
  have c1 : W.cell? ⟨h, 1, none⟩ = some (.int .i64 (F 1 : Nat)) := cell5 h5 (by omega)
  have c2 : W.cell? ⟨h, 2, none⟩ = some (.int .i64 (F 2 : Nat)) := cell5 h5 (by omega)
  have c3 : W.cell? ⟨h, 3, none⟩ = some (.int .i64 (F 3 : Nat)) := cell5 h5 (by omega)
  have c4 : W.cell? ⟨h, 4, none⟩ = some (.int .i64 (F 4 : Nat)) := cell5 h5 (by omega)
  rw [Array.getD_eq_getD_getElem?] at hp
  refine bodyPost_ret (v := .agg (S5 F)) (by simp [results, hr, hp, go_sem, S5, c0, c1, c2, c3, c4]) hd ⟨rfl, b⟩

theorem pack3 (w : World) (t1 t2 t3 : TypeId) (a b c : Array Value) :
    KH.Blk (((w.alloc (.cells a t1)).alloc (.cells b t2)).alloc (.cells c t3)) w.heap.size t1 a ∧ KH.Blk (((w.alloc (.cells a t1)).alloc (.cells b t2)).alloc (.cells c t3)) (w.heap.size + 1) t2 b ∧
      KH.Blk (((w.alloc (.cells a t1)).alloc (.cells b t2)).alloc (.cells c t3)) (w.heap.size + 1 + 1) t3 c ∧ Below w.heap.size w (((w.alloc (.cells a t1)).alloc (.cells b t2)).alloc (.cells c t3)) := by
  have e1 : (w.alloc (.cells a t1)).heap.size = w.heap.size + 1 := by simp
  have e2 : ((w.alloc (.cells a t1)).alloc (.cells b t2)).heap.size = w.heap.size + 1 + 1 := by simp
  have k2 := (KH.Blk.new (w.alloc (.cells a t1)) t2 b).alloc (.cells c t3)
  have k3 := KH.Blk.new ((w.alloc (.cells a t1)).alloc (.cells b t2)) t3 c
  rw [e1] at k2
  rw [e2] at k3
  exact ⟨((KH.Blk.new w t1 a).alloc _).alloc _, k2, k3, (((Below.refl w.heap.size w).alloc (Nat.le_refl _) _).alloc (by rw [e1]; omega) _).alloc (by rw [e2]; omega) _⟩
theorem src5 {w : World} {h : Nat} {t : TypeId} {F : Nat → Nat} (k : KH.Blk w h t (S5 F)) : w.cell? ⟨h, 0, none⟩ = some (.int .i64 (F 0 : Nat)) ∧ w.cell? ⟨h, 1, none⟩ = some (.int .i64 (F 1 : Nat)) ∧ w.cell? ⟨h, 2, none⟩ = some (.int .i64 (F 2 : Nat)) ∧ w.cell? ⟨h, 3, none⟩ = some (.int .i64 (F 3 : Nat)) ∧ w.cell? ⟨h, 4, none⟩ = some (.int .i64 (F 4 : Nat)) :=
  ⟨cell5 k (by omega), cell5 k (by omega), cell5 k (by omega), cell5 k (by omega), cell5 k (by omega)⟩
theorem dst5 {w : World} {h : Nat} {t : TypeId} {F : Nat → Nat} (k : KH.Blk w h t (S5 F)) : w.cell? ⟨h, 0, none⟩ = some (.int .i64 (F 0 : Nat)) ∧ w.cell? ⟨h, 1, none⟩ = some (.int .i64 (F 1 : Nat)) ∧ w.cell? ⟨h, 2, none⟩ = some (.int .i64 (F 2 : Nat)) ∧ w.cell? ⟨h, 3, none⟩ = some (.int .i64 (F 3 : Nat)) ∧ w.cell? ⟨h, 4, none⟩ = some (.int .i64 (F 4 : Nat)) ∧
    w.frozen? ⟨h, 0, none⟩ = false ∧ w.frozen? ⟨h, 1, none⟩ = false ∧ w.frozen? ⟨h, 2, none⟩ = false ∧ w.frozen? ⟨h, 3, none⟩ = false ∧ w.frozen? ⟨h, 4, none⟩ = false :=
  ⟨cell5 k (by omega), cell5 k (by omega), cell5 k (by omega), cell5 k (by omega), cell5 k (by omega), k.frozen 0, k.frozen 1, k.frozen 2, k.frozen 3, k.frozen 4⟩
/-- two rows added, in part -/
def pluS (F G : Nat → Nat) (i p : Nat) : Nat := if p < i then F p + G p else F p
set_option maxHeartbeats 1000000 in
set_option maxRecDepth 100000 in
theorem plus_any (F G : Nat → Nat) (w : World) (hF : ∀ p, p < 5 → F p < 4294967296) (hG : ∀ p, p < 5 → G p < 4294967296) :
    Calls Tryz.prog 112 #[.agg (S5 F), .agg (S5 G)] w fun e w' => e = .returned (.agg (S5 fun p => F p + G p)) ∧ Below w.heap.size w w' := by
  have HF := KH.hid hF
  have HG := KH.hid hG
  have hp := pack3 w 173 173 173 (S5 F) (S5 G) (S5 fun _ => 0)
  go_enter Tryz.func112, Tryz.ntmps112
  go_wp2_with fail
  rw [z5]
  generalize ((w.alloc (.cells (S5 F) 173)).alloc (.cells (S5 G) 173)).alloc (.cells (S5 fun _ => 0) 173) = W at *
  obtain ⟨h2, e2⟩ : ∃ h, h = w.heap.size := ⟨_, rfl⟩
  obtain ⟨h3, e3⟩ : ∃ h, h = w.heap.size + 1 := ⟨_, rfl⟩
  obtain ⟨h4, e4⟩ : ∃ h, h = w.heap.size + 1 + 1 := ⟨_, rfl⟩
  rw [← e4, ← e3] at hp ⊢
  conv => pattern w.heap.size; rw [← e2]
  obtain ⟨k2, k3, k4, hb⟩ := hp
  rw [← e2] at k2
  have hI0 : KH.Blk W h2 173 (S5 (pluS F G 0)) ∧ KH.Blk W h3 173 (S5 G) ∧ KH.Blk W h4 173 (S5 fun _ => 0) ∧ Below w.heap.size w W := ⟨k2, k3, k4, hb⟩
  have n23 : h2 ≠ h3 := by omega
  have n24 : h2 ≠ h4 := by omega
  have l2 : w.heap.size ≤ h2 := by omega
  have l4 : w.heap.size ≤ h4 := by omega
  clear k2 k3 k4 hb e2 e3 e4 hF hG
  have HI0 := KH.hid hI0
  clear hI0
  go_loopw [5, 6] (fun _ t wr => ∃ i : Nat, i ≤ 5 ∧ t = .int .i64 i ∧ Hid (KH.Blk wr h2 173 (S5 (pluS F G i)) ∧ KH.Blk wr h3 173 (S5 G) ∧ KH.Blk wr h4 173 (S5 fun _ => 0) ∧ Below w.heap.size w wr)) (fun _ t _ => 5 - (intOf t).toNat)
  case atStart => exact ⟨0, Nat.zero_le _, rfl, HI0⟩
  case round =>
    obtain ⟨i, hi, rfl, hI⟩ := hrel
    clear HI0
    by_cases hil : i < 5
    · obtain ⟨k2, k3, k4, hb⟩ := hI.out
      have c2 := cell5 k2 hil
      have f2 := k2.frozen i
      have c3 := cell5 k3 hil
      have hx : pluS F G i i = F i := by unfold pluS; rw [if_neg (by omega)]
      rw [hx] at c2
      have hs := set5 (p := i) (v := F i + G i) k2
      have hs' := k3.far (p := ⟨h2, i, none⟩) (fun h => n23 h.symm) (.int .i64 (F i + G i : Nat))
      have hs4 := k4.far (p := ⟨h2, i, none⟩) (fun h => n24 h.symm) (.int .i64 (F i + G i : Nat))
      rw [S5_congr (G := pluS F G (i + 1)) (fun p _ => by
        unfold pluS
        by_cases e : p = i
        · subst e; rw [if_pos rfl, if_pos (by omega)]
        · rw [if_neg e]
          by_cases h : p < i
          · rw [if_pos h, if_pos (by omega)]
          · rw [if_neg h, if_neg (by omega)])] at hs
      have hN := KH.hid (And.intro hs.drew (And.intro hs'.drew (And.intro hs4.drew (hb.setCell (p := ⟨h2, i, none⟩) l2 (.int .i64 (F i + G i : Nat))).drew)))
      have b1 := HF.out i hil
      have b2 := HG.out i hil
      clear hs hs' hs4 hb k2 k3 k4 hI hx
      generalize F i = x at *
      generalize G i = y at *
      have hwr : IntKind.i64.wrap ((x : Int) + (y : Int)) = ((x + y : Nat) : Int) := by rw [← Int.natCast_add]; exact wrap_nat _ (by omega)
      have i0 : (0 : Int) ≤ (i : Int) := by omega
      have i1 : (i : Int) < 5 := by omega
      have d5 : decide ((i : Int) < 5) = true := by rw [decide_eq_true_iff]; omega
      go_wp2_with fail
      refine wp_region_still_tail 8 (by kernel_rfl) (by kernel_rfl) ?_
      simp only [List.take_succ_cons, List.take_zero, List.drop_succ_cons, List.drop_zero]
      repeat still_step
      refine wpStill_nil ?_
      go_wp2_with fail
      exact ⟨⟨i + 1, by omega, by go_num, hN⟩, by simp [intOf]; omega⟩
    · obtain rfl : i = 5 := by omega
      obtain ⟨k2, k3, k4, hb⟩ := hI.out
      have he : S5 (pluS F G 5) = S5 fun p => F p + G p := S5_congr fun p hp => by unfold pluS; rw [if_pos hp]
      rw [he] at k2
      obtain ⟨c0, c1, c2, c3, c4⟩ := src5 k2
      obtain ⟨x0, x1, x2, x3, x4, f0, f1, f2, f3, f4⟩ := dst5 k4
      have HR := KH.hid (And.intro k4 hb)
      clear k2 k3 k4 hb hI
      rw [show ((5 : Nat) : Int) = (5 : Int) from rfl]
      go_wp2_with fail
      exact ret5 (F := fun p => F p + G p) rfl HR.out.1 l4 HR.out.2 (by rfl) rfl
end Go.Proofs.YtlnilfcjcoclhaaGreatDoor
/- Package tag: times. -/
namespace Go.Proofs.YtlnilfcjcoclhaaGreatDoor
open Go.RowKit

theorem pack4 (w : World) (t1 t2 t3 t4 : TypeId) (a b c d : Array Value) :
    KH.Blk ((((w.alloc (.cells a t1)).alloc (.cells b t2)).alloc (.cells c t3)).alloc (.cells d t4)) w.heap.size t1 a ∧ KH.Blk ((((w.alloc (.cells a t1)).alloc (.cells b t2)).alloc (.cells c t3)).alloc (.cells d t4)) (w.heap.size + 1) t2 b ∧
      KH.Blk ((((w.alloc (.cells a t1)).alloc (.cells b t2)).alloc (.cells c t3)).alloc (.cells d t4)) (w.heap.size + 1 + 1) t3 c ∧ KH.Blk ((((w.alloc (.cells a t1)).alloc (.cells b t2)).alloc (.cells c t3)).alloc (.cells d t4)) (w.heap.size + 1 + 1 + 1) t4 d ∧
      Below w.heap.size w ((((w.alloc (.cells a t1)).alloc (.cells b t2)).alloc (.cells c t3)).alloc (.cells d t4)) := by
  obtain ⟨k1, k2, k3, hb⟩ := pack3 w t1 t2 t3 a b c
  have e3 : (((w.alloc (.cells a t1)).alloc (.cells b t2)).alloc (.cells c t3)).heap.size = w.heap.size + 1 + 1 + 1 := by simp
  have k4 := KH.Blk.new (((w.alloc (.cells a t1)).alloc (.cells b t2)).alloc (.cells c t3)) t4 d
  rw [e3] at k4
  exact ⟨k1.alloc _, k2.alloc _, k3.alloc _, k4, hb.alloc (by rw [e3]; omega) _⟩

/-- the part of a product that digit i of the first gives -/
def tiT (F G : Nat → Nat) (i p : Nat) : Nat := F i * G ((p + 5 - i) % 5) * (if 5 ≤ i + (p + 5 - i) % 5 then 5 else 1)
def tiS (F G : Nat → Nat) : Nat → Nat → Nat
  | 0, _ => 0
  | i + 1, p => tiS F G i p + tiT F G i p
def tiI (F G : Nat → Nat) (i k p : Nat) : Nat := tiS F G i p + if (p + 5 - i) % 5 < k then tiT F G i p else 0
theorem mul_bound {x y a b : Nat} (hx : x ≤ a) (hy : y ≤ b) : x * y ≤ a * b := Nat.mul_le_mul hx hy
theorem tiT_le {F G : Nat → Nat} (hF : ∀ p, p < 5 → F p ≤ 600000000) (hG : ∀ p, p < 5 → G p ≤ 300000000) {i : Nat} (hi : i < 5) (p : Nat) : tiT F G i p ≤ 900000000000000000 := by
  have h := mul_bound (hF i hi) (hG ((p + 5 - i) % 5) (by omega))
  unfold tiT
  generalize F i * G ((p + 5 - i) % 5) = z at *
  split <;> omega
theorem tiS_le {F G : Nat → Nat} (hF : ∀ p, p < 5 → F p ≤ 600000000) (hG : ∀ p, p < 5 → G p ≤ 300000000) : ∀ {i : Nat}, i ≤ 5 → ∀ p, tiS F G i p ≤ i * 900000000000000000
  | 0, _, _ => Nat.zero_le _
  | i + 1, hi, p => by
    have h1 := tiS_le hF hG (i := i) (by omega) p
    have h2 := tiT_le hF hG (i := i) (by omega) p
    show tiS F G i p + tiT F G i p ≤ _
    omega
theorem tiI_zero (F G : Nat → Nat) (i : Nat) : tiI F G i 0 = tiS F G i := by funext p; unfold tiI; rw [if_neg (by omega), Nat.add_zero]
theorem tiI_five (F G : Nat → Nat) (i : Nat) : tiI F G i 5 = tiS F G (i + 1) := by funext p; unfold tiI; rw [if_pos (by omega)]; rfl
theorem tiI_at (F G : Nat → Nat) {i k : Nat} (hi : i < 5) (hk : k < 5) : tiI F G i k ((i + k) % 5) = tiS F G i ((i + k) % 5) := by
  unfold tiI; rw [if_neg (by omega), Nat.add_zero]
theorem tiI_set (F G : Nat → Nat) {i k : Nat} (hi : i < 5) (hk : k < 5) : S5 (fun q => if q = (i + k) % 5 then tiS F G i ((i + k) % 5) + F i * G k * (if 5 ≤ i + k then 5 else 1) else tiI F G i k q) = S5 (tiI F G i (k + 1)) := by
  refine S5_congr fun p hp => ?_
  by_cases e : p = (i + k) % 5
  · have ek : (p + 5 - i) % 5 = k := by omega
    rw [if_pos e]
    unfold tiI tiT
    rw [ek, if_pos (show k < k + 1 by omega), e]
  · rw [if_neg e]
    unfold tiI
    by_cases h : (p + 5 - i) % 5 < k
    · rw [if_pos h, if_pos (by omega)]
    · rw [if_neg h, if_neg (by omega)]
set_option maxHeartbeats 1000000 in
set_option maxRecDepth 100000 in
theorem mtimes_any (F G : Nat → Nat) (w : World) (hF : ∀ p, p < 5 → F p ≤ 600000000) (hG : ∀ p, p < 5 → G p ≤ 300000000) :
    Calls Tryz.prog 113 #[.agg (S5 F), .agg (S5 G)] w fun e w' => e = .returned (.agg (S5 (tiS F G 5))) ∧ Below w.heap.size w w' := by
  have HF := KH.hid hF
  have HG := KH.hid hG
  have HS := KH.hid fun (i : Nat) (hi : i ≤ 5) p => tiS_le hF hG hi p
  have hp := pack4 w 173 173 173 173 (S5 F) (S5 G) (S5 fun _ => 0) (S5 fun _ => 0)
  go_enter Tryz.func113, Tryz.ntmps113
  go_wp2_with fail
  rw [z5]
  generalize (((w.alloc (.cells (S5 F) 173)).alloc (.cells (S5 G) 173)).alloc (.cells (S5 fun _ => 0) 173)).alloc (.cells (S5 fun _ => 0) 173) = W at *
  obtain ⟨h2, e2⟩ : ∃ h, h = w.heap.size := ⟨_, rfl⟩
  obtain ⟨h3, e3⟩ : ∃ h, h = w.heap.size + 1 := ⟨_, rfl⟩
  obtain ⟨h4, e4⟩ : ∃ h, h = w.heap.size + 1 + 1 := ⟨_, rfl⟩
  obtain ⟨h5, e5⟩ : ∃ h, h = w.heap.size + 1 + 1 + 1 := ⟨_, rfl⟩
  rw [← e5, ← e4, ← e3] at hp ⊢
  conv => pattern w.heap.size; rw [← e2]
  obtain ⟨k2, k3, k4, k5, hb⟩ := hp
  rw [← e2] at k2
  have HI0 := KH.hid (show KH.Blk W h2 173 (S5 F) ∧ KH.Blk W h3 173 (S5 G) ∧ KH.Blk W h4 173 (S5 fun _ => 0) ∧ KH.Blk W h5 173 (S5 (tiS F G 0)) ∧ Below w.heap.size w W from ⟨k2, k3, k4, k5, hb⟩)
  have n2 : h2 ≠ h5 := by omega
  have n3 : h3 ≠ h5 := by omega
  have n4 : h4 ≠ h5 := by omega
  have l5 : w.heap.size ≤ h5 := by omega
  have l4 : w.heap.size ≤ h4 := by omega
  clear k2 k3 k4 k5 hb e2 e3 e4 e5 hF hG
  go_loopw [6, 7, 8, 9] (fun _ _ _ t wr => ∃ i : Nat, i ≤ 5 ∧ t = .int .i64 i ∧ Hid (KH.Blk wr h2 173 (S5 F) ∧ KH.Blk wr h3 173 (S5 G) ∧ KH.Blk wr h4 173 (S5 fun _ => 0) ∧ KH.Blk wr h5 173 (S5 (tiS F G i)) ∧ Below w.heap.size w wr)) (fun _ _ _ t _ => 5 - (intOf t).toNat)
  case atStart => exact ⟨0, Nat.zero_le _, rfl, HI0⟩
  case round =>
    obtain ⟨i, hi, rfl, hI⟩ := hrel
    clear HI0
    by_cases hil : i < 5
    · have i0 : (0 : Int) ≤ (i : Int) := by omega
      have i1 : (i : Int) < 5 := by omega
      have d5 : decide ((i : Int) < 5) = true := by rw [decide_eq_true_iff]; omega
      have HJ0 : Hid (KH.Blk wr h2 173 (S5 F) ∧ KH.Blk wr h3 173 (S5 G) ∧ KH.Blk wr h4 173 (S5 fun _ => 0) ∧ KH.Blk wr h5 173 (S5 (tiI F G i 0)) ∧ Below w.heap.size w wr) := by rw [tiI_zero]; exact hI
      clear hI
      go_wp2_with fail
      go_loopw [7, 8, 12] (fun _ _ t wr => ∃ k : Nat, k ≤ 5 ∧ t = .int .i64 k ∧ Hid (KH.Blk wr h2 173 (S5 F) ∧ KH.Blk wr h3 173 (S5 G) ∧ KH.Blk wr h4 173 (S5 fun _ => 0) ∧ KH.Blk wr h5 173 (S5 (tiI F G i k)) ∧ Below w.heap.size w wr)) (fun _ _ t _ => 5 - (intOf t).toNat)
      case atStart => exact ⟨0, Nat.zero_le _, rfl, HJ0⟩
      case round =>
        obtain ⟨k, hk, rfl, hI⟩ := hrel
        clear HJ0
        by_cases hkl : k < 5
        · obtain ⟨k2, k3, k4, k5, hb⟩ := hI.out
          have c2 := cell5 k2 hil
          have c3 := cell5 k3 hkl
          have c5 := cell5 (p := (i + k) % 5) k5 (by omega)
          have f5 := k5.frozen ((i + k) % 5)
          rw [tiI_at F G hil hkl] at c5
          have hs := set5 (p := (i + k) % 5) (v := tiS F G i ((i + k) % 5) + F i * G k * (if 5 ≤ i + k then 5 else 1)) k5
          rw [tiI_set F G hil hkl] at hs
          have hN := KH.hid (And.intro (k2.far (p := ⟨h5, (i + k) % 5, none⟩) n2 (.int .i64 (tiS F G i ((i + k) % 5) + F i * G k * (if 5 ≤ i + k then 5 else 1) : Nat))).drew (And.intro (k3.far (p := ⟨h5, (i + k) % 5, none⟩) n3 (.int .i64 (tiS F G i ((i + k) % 5) + F i * G k * (if 5 ≤ i + k then 5 else 1) : Nat))).drew (And.intro (k4.far (p := ⟨h5, (i + k) % 5, none⟩) n4 (.int .i64 (tiS F G i ((i + k) % 5) + F i * G k * (if 5 ≤ i + k then 5 else 1) : Nat))).drew (And.intro hs.drew (hb.setCell (p := ⟨h5, (i + k) % 5, none⟩) l5 (.int .i64 (tiS F G i ((i + k) % 5) + F i * G k * (if 5 ≤ i + k then 5 else 1) : Nat))).drew))))
          have b1 := mul_bound (HF.out i hil) (HG.out k hkl)
          have b2 := HS.out i (by omega) ((i + k) % 5)
          clear hs k2 k3 k4 k5 hb hI
          have hxy : ((F i * G k : Nat) : Int) = (F i : Int) * (G k : Int) := Int.natCast_mul _ _
          generalize tiS F G i ((i + k) % 5) = z at *
          have hwr : IntKind.i64.wrap ((F i : Int) * (G k : Int)) = ((F i * G k : Nat) : Int) := by rw [← hxy]; exact wrap_nat _ (by omega)
          generalize F i * G k = xy at *
          generalize F i = x at *
          generalize G k = y at *
          have k0 : (0 : Int) ≤ (k : Int) := by omega
          have k1 : (k : Int) < 5 := by omega
          have dk : decide ((k : Int) < 5) = true := by rw [decide_eq_true_iff]; omega
          by_cases hg : 5 ≤ i + k
          · rw [if_pos hg] at hN
            have hev : ((z + xy * 5 : Nat) : Int) = (z : Int) + (x : Int) * (y : Int) * 5 := by omega
            rw [hev] at hN
            have d7 : decide ((5 : Int) ≤ (i : Int) + (k : Int)) = true := by rw [decide_eq_true_iff]; omega
            have b3 : (z : Int) + (x : Int) * (y : Int) * 5 ≤ 4500000000000000000 := by omega
            have b4 : (0 : Int) ≤ (x : Int) * (y : Int) := by omega
            go_wp2_with fail
            refine wp_region_still_tail 7 (by kernel_rfl) (by kernel_rfl) ?_
            simp only [List.take_succ_cons, List.take_zero, List.drop_succ_cons, List.drop_zero]
            repeat still_step
            refine wpStill_nil ?_
            go_wp2_with fail
            exact ⟨⟨k + 1, by omega, by go_num, hN⟩, by simp [intOf]; omega⟩
          · rw [if_neg hg, Nat.mul_one] at hN
            have hev : ((z + xy : Nat) : Int) = (z : Int) + (x : Int) * (y : Int) := by omega
            rw [hev] at hN
            have d7 : decide ((5 : Int) ≤ (i : Int) + (k : Int)) = false := by rw [decide_eq_false_iff_not]; omega
            have b3 : (z : Int) + (x : Int) * (y : Int) ≤ 4500000000000000000 := by omega
            have b4 : (0 : Int) ≤ (x : Int) * (y : Int) := by omega
            go_wp2_with fail
            refine wp_region_still_tail 7 (by kernel_rfl) (by kernel_rfl) ?_
            simp only [List.take_succ_cons, List.take_zero, List.drop_succ_cons, List.drop_zero]
            repeat still_step
            refine wpStill_nil ?_
            go_wp2_with fail
            exact ⟨⟨k + 1, by omega, by go_num, hN⟩, by simp [intOf]; omega⟩
        · obtain rfl : k = 5 := by omega
          have hI' := hI
          rw [tiI_five] at hI'
          clear hI
          go_wp2_with fail
          exact ⟨⟨i + 1, by omega, by go_num, hI'⟩, by simp [intOf]; omega⟩
    · obtain rfl : i = 5 := by omega
      obtain ⟨k2, k3, k4, k5, hb⟩ := hI.out
      obtain ⟨c0, c1, c2, c3, c4⟩ := src5 k5
      obtain ⟨x0, x1, x2, x3, x4, f0, f1, f2, f3, f4⟩ := dst5 k4
      have HR := KH.hid (And.intro k4 hb)
      clear k2 k3 k4 k5 hb hI
      rw [show ((5 : Nat) : Int) = (5 : Int) from rfl]
      go_wp2_with fail
      exact ret5 (F := tiS F G 5) rfl HR.out.1 l4 HR.out.2 (by rfl) rfl
end Go.Proofs.YtlnilfcjcoclhaaGreatDoor
/- Package tag: left. -/
namespace Go.Proofs.YtlnilfcjcoclhaaGreatDoor
open Go.RowKit

theorem bits_and_i64 (a b : Nat) (ha : a < 4611686018427387904) (hb : b < 4611686018427387904) :
    bits .and .i64 (a : Int) (b : Int) = ((a &&& b : Nat) : Int) := by
  have hx : a &&& b < 2 ^ 62 := Nat.and_lt_two_pow _ (by omega)
  have h1 : (BitVec.ofInt 64 (a : Int)).toNat = a := by
    rw [BitVec.ofInt_natCast, BitVec.toNat_ofNat]; exact Nat.mod_eq_of_lt (by omega)
  have h2 : (BitVec.ofInt 64 (b : Int)).toNat = b := by
    rw [BitVec.ofInt_natCast, BitVec.toNat_ofNat]; exact Nat.mod_eq_of_lt (by omega)
  show IntKind.i64.wrap ((BitVec.ofInt 64 (a : Int) &&& BitVec.ofInt 64 (b : Int)).toNat : Int) = _
  rw [BitVec.toNat_and, h1, h2]
  simp only [IntKind.wrap, IntKind.bits, IntKind.signed]
  simp
  omega
theorem bits_or_i64 (a b : Nat) (ha : a < 4611686018427387904) (hb : b < 4611686018427387904) :
    bits .or .i64 (a : Int) (b : Int) = ((a ||| b : Nat) : Int) := by
  have hx : a ||| b < 2 ^ 62 := Nat.or_lt_two_pow (by omega) (by omega)
  have h1 : (BitVec.ofInt 64 (a : Int)).toNat = a := by
    rw [BitVec.ofInt_natCast, BitVec.toNat_ofNat]; exact Nat.mod_eq_of_lt (by omega)
  have h2 : (BitVec.ofInt 64 (b : Int)).toNat = b := by
    rw [BitVec.ofInt_natCast, BitVec.toNat_ofNat]; exact Nat.mod_eq_of_lt (by omega)
  show IntKind.i64.wrap ((BitVec.ofInt 64 (a : Int) ||| BitVec.ofInt 64 (b : Int)).toNat : Int) = _
  rw [BitVec.toNat_or, h1, h2]
  simp only [IntKind.wrap, IntKind.bits, IntKind.signed]
  simp
  omega
theorem bits_low (a : Nat) (ha : a < 4611686018427387904) : bits .and .i64 (a : Int) 67108863 = ((a % 67108864 : Nat) : Int) := by
  rw [show (67108863 : Int) = ((67108863 : Nat) : Int) from rfl, bits_and_i64 a _ ha (by omega)]
  rw [show (67108863 : Nat) = 2 ^ 26 - 1 from rfl, Nat.and_two_pow_sub_one_eq_mod]
theorem bits_255 (a : Nat) (ha : a < 4611686018427387904) : bits .and .i64 (a : Int) 255 = ((a % 256 : Nat) : Int) := by
  rw [show (255 : Int) = ((255 : Nat) : Int) from rfl, bits_and_i64 a _ ha (by omega)]
  rw [show (255 : Nat) = 2 ^ 8 - 1 from rfl, Nat.and_two_pow_sub_one_eq_mod]

theorem pack2 (w : World) (t1 t2 : TypeId) (a b : Array Value) :
    KH.Blk ((w.alloc (.cells a t1)).alloc (.cells b t2)) w.heap.size t1 a ∧ KH.Blk ((w.alloc (.cells a t1)).alloc (.cells b t2)) (w.heap.size + 1) t2 b ∧ Below w.heap.size w ((w.alloc (.cells a t1)).alloc (.cells b t2)) := by
  have e1 : (w.alloc (.cells a t1)).heap.size = w.heap.size + 1 := by simp
  have k2 := KH.Blk.new (w.alloc (.cells a t1)) t2 b
  rw [e1] at k2
  exact ⟨(KH.Blk.new w t1 a).alloc _, k2, ((Below.refl w.heap.size w).alloc (Nat.le_refl _) _).alloc (by rw [e1]; omega) _⟩
/-- what is carried to digit i -/
def cF (F : Nat → Nat) : Nat → Nat
  | 0 => 0
  | i + 1 => (F i + cF F i) / 67108864
def pasI (F : Nat → Nat) (i p : Nat) : Nat := if p < i then (F p + cF F p) % 67108864 else F p
def pas (F : Nat → Nat) (p : Nat) : Nat := if p = 0 then (F 0 + cF F 0) % 67108864 + 5 * cF F 5 else (F p + cF F p) % 67108864
def pasN (F : Nat → Nat) : Nat → Nat → Nat
  | 0 => F
  | j + 1 => pas (pasN F j)
def ovr (F : Nat → Nat) : Nat → Nat
  | 0 => 1
  | j + 1 => cF (pasN F j) 5
def numV (F : Nat → Nat) : Nat := F 0 + 67108864 * F 1 + 4503599627370496 * F 2 + 302231454903657293676544 * F 3 + 20282409603651670423947251286016 * F 4
theorem cF_all (F : Nat → Nat) : cF F 0 = 0 ∧ cF F 1 = (F 0 + cF F 0) / 67108864 ∧ cF F 2 = (F 1 + cF F 1) / 67108864 ∧ cF F 3 = (F 2 + cF F 2) / 67108864 ∧ cF F 4 = (F 3 + cF F 3) / 67108864 ∧ cF F 5 = (F 4 + cF F 4) / 67108864 := ⟨rfl, rfl, rfl, rfl, rfl, rfl⟩
theorem pas_all (F : Nat → Nat) : pas F 0 = (F 0 + cF F 0) % 67108864 + 5 * cF F 5 ∧ pas F 1 = (F 1 + cF F 1) % 67108864 ∧ pas F 2 = (F 2 + cF F 2) % 67108864 ∧ pas F 3 = (F 3 + cF F 3) % 67108864 ∧ pas F 4 = (F 4 + cF F 4) % 67108864 := ⟨rfl, rfl, rfl, rfl, rfl⟩
theorem numV_pas (F : Nat → Nat) : numV (pas F) + cF F 5 * 1361129467683753853853498429727072845819 = numV F := by
  obtain ⟨c0, c1, c2, c3, c4, c5⟩ := cF_all F
  obtain ⟨p0, p1, p2, p3, p4⟩ := pas_all F
  unfold numV
  omega
theorem cF_le {F : Nat → Nat} (h : ∀ p, p < 5 → F p ≤ 4500000000000000000) : ∀ i, i ≤ 5 → cF F i ≤ 70000000000
  | 0, _ => by unfold cF; omega
  | i + 1, hi => by
    have h1 := cF_le h i (by omega)
    have h2 := h i (by omega)
    unfold cF
    omega
theorem pas_le {F : Nat → Nat} (h : ∀ p, p < 5 → F p ≤ 4500000000000000000) (p : Nat) : pas F p ≤ 4500000000000000000 := by
  have h5 := cF_le h 5 (by omega)
  unfold pas
  split <;> omega
theorem pasN_le {F : Nat → Nat} (h : ∀ p, p < 5 → F p ≤ 4500000000000000000) : ∀ j, ∀ p, p < 5 → pasN F j p ≤ 4500000000000000000
  | 0 => h
  | j + 1 => fun p _ => pas_le (pasN_le h j) p
theorem cF_low {F : Nat → Nat} (h : ∀ p, p < 5 → F p < 67108864) : ∀ i, i ≤ 5 → cF F i = 0
  | 0, _ => rfl
  | i + 1, hi => by
    have h1 := cF_low h i (by omega)
    have h2 := h i (by omega)
    unfold cF
    omega
theorem pas_low {F : Nat → Nat} (h : cF F 5 = 0) (p : Nat) : pas F p < 67108864 := by
  unfold pas
  split <;> omega
theorem pas_fix {F : Nat → Nat} (h : ∀ p, p < 5 → F p < 67108864) (p : Nat) (hp : p < 5) : pas F p = F p := by
  have h5 := cF_low h 5 (by omega)
  have hc := cF_low h p (by omega)
  have h0 := cF_low h 0 (by omega)
  have := h p hp
  have := h 0 (by omega)
  unfold pas
  split
  · rename_i e; subst e; omega
  · omega
theorem pasN_low {F : Nat → Nat} {j : Nat} (h : ovr F j = 0) : ∀ p, pasN F j p < 67108864 := by
  cases j with
  | zero => exact absurd h (by show (1 : Nat) ≠ 0; omega)
  | succ j => exact pas_low h
theorem pasN_stay {F : Nat → Nat} {j : Nat} (h : ovr F j = 0) : ∀ k, (∀ p, p < 5 → pasN F (j + k) p = pasN F j p)
  | 0 => fun _ _ => rfl
  | k + 1 => fun p hp => by
    have ih := pasN_stay h k
    have hl := pasN_low h
    have hl' : ∀ p, p < 5 → pasN F (j + k) p < 67108864 := fun p hp => by rw [ih p hp]; exact hl p
    exact (pas_fix hl' p hp).trans (ih p hp)
/-- a row that is left -/
def lftV (F : Nat → Nat) : Nat → Nat := pasN F (numV F + 1)
theorem lftV_eq {F : Nat → Nat} {j : Nat} (h : ovr F j = 0) (hj : j ≤ numV F + 1) : S5 (pasN F j) = S5 (lftV F) := by
  refine S5_congr fun p hp => ?_
  have := pasN_stay h (numV F + 1 - j) p hp
  rw [show j + (numV F + 1 - j) = numV F + 1 by omega] at this
  exact this.symm
def finV (G : Nat → Nat) (p : Nat) : Nat := if 67108859 ≤ G 0 ∧ G 1 = 67108863 ∧ G 2 = 67108863 ∧ G 3 = 67108863 ∧ G 4 = 67108863 then (if p = 0 then G 0 - 67108859 else 0) else G p
/-- the value of the cells, for the measure -/
def cN (w : World) (h p : Nat) : Nat := match w.cell? ⟨h, p, none⟩ with | some v => (intOf v).toNat | none => 0
theorem cN_eq {w : World} {h p : Nat} {t : TypeId} {F : Nat → Nat} (k : KH.Blk w h t (S5 F)) (hp : p < 5) : cN w h p = F p := by
  unfold cN; rw [cell5 k hp]; simp [intOf]
theorem numV_congr {F G : Nat → Nat} (h : ∀ p, p < 5 → F p = G p) : numV F = numV G := by
  unfold numV; rw [h 0 (by omega), h 1 (by omega), h 2 (by omega), h 3 (by omega), h 4 (by omega)]
theorem pasI_zero (F : Nat → Nat) : pasI F 0 = F := by funext p; unfold pasI; rw [if_neg (by omega)]
theorem pasI_set (F : Nat → Nat) (i : Nat) : S5 (fun q => if q = i then (F i + cF F i) % 67108864 else if q = i then F i + cF F i else pasI F i q) = S5 (pasI F (i + 1)) := by
  refine S5_congr fun p _ => ?_
  unfold pasI
  by_cases e : p = i
  · subst e; rw [if_pos rfl, if_pos (by omega)]
  · rw [if_neg e, if_neg e]
    by_cases h : p < i
    · rw [if_pos h, if_pos (by omega)]
    · rw [if_neg h, if_neg (by omega)]
theorem pasI_five (F : Nat → Nat) : S5 (fun q => if q = 0 then (F 0 + cF F 0) % 67108864 + 5 * cF F 5 else pasI F 5 q) = S5 (pas F) := by
  refine S5_congr fun p hp => ?_
  unfold pas pasI
  by_cases e : p = 0
  · rw [if_pos e, if_pos e]
  · rw [if_neg e, if_neg e, if_pos hp]
set_option maxHeartbeats 1000000 in
set_option maxRecDepth 100000 in
theorem left_any (F : Nat → Nat) (w : World) (hF : ∀ p, p < 5 → F p ≤ 4500000000000000000) :
    Calls Tryz.prog 114 #[.agg (S5 F)] w fun e w' => e = .returned (.agg (S5 (finV (lftV F)))) ∧ Below w.heap.size w w' := by
  have HP := KH.hid (pasN_le hF)
  have HL := KH.hid fun (j : Nat) (h : ovr F j = 0) (hj : j ≤ numV F + 1) => lftV_eq h hj
  have hp := pack2 w 173 173 (S5 F) (S5 fun _ => 0)
  go_enter Tryz.func114, Tryz.ntmps114
  go_wp2_with fail
  rw [z5]
  generalize (w.alloc (.cells (S5 F) 173)).alloc (.cells (S5 fun _ => 0) 173) = W at *
  obtain ⟨h1, e1⟩ : ∃ h, h = w.heap.size := ⟨_, rfl⟩
  obtain ⟨h2, e2⟩ : ∃ h, h = w.heap.size + 1 := ⟨_, rfl⟩
  rw [← e2] at hp ⊢
  conv => pattern w.heap.size; rw [← e1]
  obtain ⟨k1, k2, hb⟩ := hp
  rw [← e1] at k1
  have HI0 := KH.hid (show KH.Blk W h1 173 (S5 (pasN F 0)) ∧ KH.Blk W h2 173 (S5 fun _ => 0) ∧ Below w.heap.size w W ∧ (ovr F 0 ≠ 0 → numV (pasN F 0) + 0 ≤ numV F) ∧ 0 ≤ numV F + 1 from ⟨k1, k2, hb, fun _ => by show numV F + 0 ≤ _; omega, Nat.zero_le _⟩)
  have n2 : h2 ≠ h1 := by omega
  have l1 : w.heap.size ≤ h1 := by omega
  have l2 : w.heap.size ≤ h2 := by omega
  clear k1 k2 hb e1 e2 hF
  go_loopw [3, 4] (fun o _ wr => ∃ j : Nat, o = .int .i64 (ovr F j : Nat) ∧ Hid (KH.Blk wr h1 173 (S5 (pasN F j)) ∧ KH.Blk wr h2 173 (S5 fun _ => 0) ∧ Below w.heap.size w wr ∧ (ovr F j ≠ 0 → numV (pasN F j) + j ≤ numV F) ∧ j ≤ numV F + 1)) (fun o _ wr => if (intOf o).toNat = 0 then 0 else numV (cN wr h1) + 1)
  case atStart => exact ⟨0, rfl, HI0⟩
  case round =>
    obtain ⟨j, rfl, hI⟩ := hrel
    clear HI0
    by_cases ho : ovr F j = 0
    · obtain ⟨k1, k2, hb, -, hV⟩ := hI.out
      rw [HL.out j ho hV] at k1
      rw [ho]
      have HR := KH.hid (And.intro k2 hb)
      have hbd : ∀ p, p < 5 → lftV F p < 67108864 := fun p hp => by
        have h := pasN_stay ho (numV F + 1 - j) p hp
        rw [show j + (numV F + 1 - j) = numV F + 1 by omega] at h
        rw [show lftV F p = pasN F (numV F + 1) p from rfl, h]
        exact pasN_low ho p
      obtain ⟨G, hG⟩ : ∃ G, G = lftV F := ⟨_, rfl⟩
      rw [← hG] at k1 hbd
      have HG := KH.hid hG
      obtain ⟨c0, c1, c2, c3, c4⟩ := src5 k1
      obtain ⟨x0, x1, x2, x3, x4, f0, f1, f2, f3, f4⟩ := dst5 k2
      have HB := KH.hid hbd
      clear k1 k2 hb hV hI ho hG hbd
      by_cases a0 : 67108859 ≤ G 0
      rotate_left
      · have e0 : decide ((67108859 : Int) ≤ ((G 0 : Nat) : Int)) = false := by rw [decide_eq_false_iff_not]; omega
        have HE : Hid (S5 (finV G) = S5 G) := S5_congr fun p _ => by unfold finV; rw [if_neg (fun h => a0 h.1)]
        clear a0
        go_wp2_with fail
        rw [← HG.out, HE.out]
        exact ret5 (F := G) rfl HR.out.1 l2 HR.out.2 (by rfl) rfl
      have e0 : decide ((67108859 : Int) ≤ ((G 0 : Nat) : Int)) = true := by rw [decide_eq_true_iff]; omega
      by_cases a1 : G 1 = 67108863
      rotate_left
      · have e1 : (((G 1 : Nat) : Int) == 67108863) = false := by rw [beq_eq_false_iff_ne]; omega
        have HE : Hid (S5 (finV G) = S5 G) := S5_congr fun p _ => by unfold finV; rw [if_neg (fun h => a1 h.2.1)]
        clear a1 a0
        go_wp2_with fail
        rw [← HG.out, HE.out]
        exact ret5 (F := G) rfl HR.out.1 l2 HR.out.2 (by rfl) rfl
      have e1 : (((G 1 : Nat) : Int) == 67108863) = true := by rw [beq_iff_eq]; omega
      by_cases a2 : G 2 = 67108863
      rotate_left
      · have e2 : (((G 2 : Nat) : Int) == 67108863) = false := by rw [beq_eq_false_iff_ne]; omega
        have HE : Hid (S5 (finV G) = S5 G) := S5_congr fun p _ => by unfold finV; rw [if_neg (fun h => a2 h.2.2.1)]
        clear a2 a0 a1
        go_wp2_with fail
        rw [← HG.out, HE.out]
        exact ret5 (F := G) rfl HR.out.1 l2 HR.out.2 (by rfl) rfl
      have e2 : (((G 2 : Nat) : Int) == 67108863) = true := by rw [beq_iff_eq]; omega
      by_cases a3 : G 3 = 67108863
      rotate_left
      · have e3 : (((G 3 : Nat) : Int) == 67108863) = false := by rw [beq_eq_false_iff_ne]; omega
        have HE : Hid (S5 (finV G) = S5 G) := S5_congr fun p _ => by unfold finV; rw [if_neg (fun h => a3 h.2.2.2.1)]
        clear a3 a0 a1 a2
        go_wp2_with fail
        rw [← HG.out, HE.out]
        exact ret5 (F := G) rfl HR.out.1 l2 HR.out.2 (by rfl) rfl
      have e3 : (((G 3 : Nat) : Int) == 67108863) = true := by rw [beq_iff_eq]; omega
      by_cases a4 : G 4 = 67108863
      rotate_left
      · have e4 : (((G 4 : Nat) : Int) == 67108863) = false := by rw [beq_eq_false_iff_ne]; omega
        have HE : Hid (S5 (finV G) = S5 G) := S5_congr fun p _ => by unfold finV; rw [if_neg (fun h => a4 h.2.2.2.2)]
        clear a4 a0 a1 a2 a3
        go_wp2_with fail
        rw [← HG.out, HE.out]
        exact ret5 (F := G) rfl HR.out.1 l2 HR.out.2 (by rfl) rfl
      have e4 : (((G 4 : Nat) : Int) == 67108863) = true := by rw [beq_iff_eq]; omega
      have hb0 := HB.out 0 (by omega)
      obtain ⟨d, hd⟩ : ∃ d, d = G 0 - 67108859 := ⟨_, rfl⟩
      have HE : Hid (S5 (finV G) = S5 fun p => if p = 0 then d else 0) := S5_congr fun p _ => by unfold finV; rw [if_pos ⟨a0, a1, a2, a3, a4⟩, hd]
      have HSU : Hid (((G 0 : Nat) : Int) - 67108859 = ((d : Nat) : Int)) := by show _ = _; omega
      have i0 : (67108859 : Int) ≤ ((G 0 : Nat) : Int) := by omega
      have i1 : ((G 0 : Nat) : Int) < 67108864 := by omega
      clear hd hb0 a0 a1 a2 a3 a4
      go_wp2_with fail
      rw [← HG.out, HE.out, HSU.out]
      exact ret5 (F := fun p => if p = 0 then d else 0) rfl HR.out.1 l2 HR.out.2 (by rfl) rfl
    · have HO := KH.hid ho
      have d0 : (((ovr F j : Nat) : Int) != 0) = true := by simp; omega
      have HJ0 : Hid (KH.Blk wr h1 173 (S5 (pasI (pasN F j) 0)) ∧ KH.Blk wr h2 173 (S5 fun _ => 0) ∧ Below w.heap.size w wr) := by rw [pasI_zero]; exact ⟨hI.out.1, hI.out.2.1, hI.out.2.2.1⟩
      have HM := KH.hid (numV_congr (G := pasN F j) fun p hp => cN_eq hI.out.1 hp)
      have HV := KH.hid (hI.out.2.2.2.1 ho)
      have HX := KH.hid (HP.out j)
      clear hI
      obtain ⟨G, hG⟩ : ∃ G, G = pasN F j := ⟨_, rfl⟩
      have HN : Hid (pasN F (j + 1) = pas G ∧ ovr F (j + 1) = cF G 5) := by rw [hG]; exact ⟨rfl, rfl⟩
      rw [← hG] at HJ0 HM HV HX
      clear hG ho
      obtain ⟨o, hoo⟩ : ∃ o, o = ovr F j := ⟨_, rfl⟩
      rw [← hoo] at HO d0 ⊢
      clear hoo
      go_wp2_with fail
      go_loopw [3, 4, 7] (fun o _ t wr => ∃ i : Nat, i ≤ 5 ∧ t = .int .i64 i ∧ o = .int .i64 (cF G i : Nat) ∧ Hid (KH.Blk wr h1 173 (S5 (pasI G i)) ∧ KH.Blk wr h2 173 (S5 fun _ => 0) ∧ Below w.heap.size w wr)) (fun _ _ t _ => 5 - (intOf t).toNat)
      case atStart => exact ⟨0, Nat.zero_le _, rfl, rfl, HJ0⟩
      case round =>
        obtain ⟨i, hi, rfl, rfl, hI⟩ := hrel
        clear HJ0
        by_cases hil : i < 5
        · obtain ⟨k1, k2, hb⟩ := hI.out
          have c1 := cell5 k1 hil
          have f1 := k1.frozen i
          have hx : pasI G i i = G i := by unfold pasI; rw [if_neg (by omega)]
          rw [hx] at c1
          have hs := set5 (p := i) (v := (G i + cF G i) % 67108864) (set5 (p := i) (v := G i + cF G i) k1)
          rw [pasI_set G i] at hs
          have hN := KH.hid (And.intro hs (And.intro ((k2.far (p := ⟨h1, i, none⟩) n2 (.int .i64 (G i + cF G i : Nat))).far (p := ⟨h1, i, none⟩) n2 (.int .i64 ((G i + cF G i) % 67108864 : Nat))) ((hb.setCell (p := ⟨h1, i, none⟩) l1 (.int .i64 (G i + cF G i : Nat))).setCell (p := ⟨h1, i, none⟩) l1 (.int .i64 ((G i + cF G i) % 67108864 : Nat)))))
          have b1 := HX.out i hil
          have b2 := cF_le HX.out i hi
          have HC : Hid (cF G (i + 1) = (G i + cF G i) / 67108864) := rfl
          clear hs k1 k2 hb hI hx
          generalize G i = x at *
          generalize cF G i = c at *
          have hwr : IntKind.i64.wrap ((x : Int) + (c : Int)) = ((x + c : Nat) : Int) := by rw [← Int.natCast_add]; exact wrap_nat _ (by omega)
          have hand := bits_low (x + c) (by omega)
          have hdv : ((x + c : Nat) : Int) / 67108864 = (((x + c) / 67108864 : Nat) : Int) := by omega
          have i0 : (0 : Int) ≤ (i : Int) := by omega
          have i1 : (i : Int) < 5 := by omega
          have d5 : decide ((i : Int) < 5) = true := by rw [decide_eq_true_iff]; omega
          go_wp2_with fail
          rw [← Int.natCast_add, hand]
          exact ⟨⟨i + 1, by omega, by go_num, by rw [HC.out, hdv], hN⟩, by simp [intOf]; omega⟩
        · obtain rfl : i = 5 := by omega
          obtain ⟨k1, k2, hb⟩ := hI.out
          have c1 := cell5 (p := 0) k1 (by omega)
          have f1 := k1.frozen 0
          have hx : pasI G 5 0 = (G 0 + cF G 0) % 67108864 := by unfold pasI; rw [if_pos (by omega)]
          rw [hx] at c1
          have hs := set5 (p := 0) (v := (G 0 + cF G 0) % 67108864 + 5 * cF G 5) k1
          rw [pasI_five G, ← HN.out.1] at hs
          have hNW := KH.hid (And.intro hs (And.intro (k2.far (p := ⟨h1, 0, none⟩) n2 (.int .i64 ((G 0 + cF G 0) % 67108864 + 5 * cF G 5 : Nat))) (hb.setCell (p := ⟨h1, 0, none⟩) l1 (.int .i64 ((G 0 + cF G 0) % 67108864 + 5 * cF G 5 : Nat)))))
          have b2 := cF_le HX.out 5 (by omega)
          have hev : (((G 0 + cF G 0) % 67108864 + 5 * cF G 5 : Nat) : Int) = (((G 0 + cF G 0) % 67108864 : Nat) : Int) + 5 * (cF G 5 : Int) := by omega
          rw [hev] at hNW
          have HQ := KH.hid (numV_pas G)
          have HO5 := HN.out.2
          clear hs k1 k2 hb hI hx hev
          have m1 : (G 0 + cF G 0) % 67108864 < 67108864 := by omega
          generalize (G 0 + cF G 0) % 67108864 = m at *
          obtain ⟨c, hc⟩ : ∃ c, c = cF G 5 := ⟨_, rfl⟩
          rw [← hc] at b2 hNW HQ HO5 ⊢
          clear hc
          rw [show ((5 : Nat) : Int) = (5 : Int) from rfl]
          go_wp2_with fail
          have hQ := HQ.out
          have hV := HV.out
          have hO := HO.out
          have eM : numV (cN (wr.setCell ⟨h1, 0, none⟩ (.int .i64 ((m : Int) + 5 * (c : Int)))) h1) = numV (pas G) := by
            rw [← HN.out.1]; exact numV_congr fun p hp => cN_eq hNW.out.1 hp
          refine ⟨⟨j + 1, by rw [HO5], hNW.out.1, hNW.out.2.1, hNW.out.2.2, fun h => ?_, ?_⟩, ?_⟩
          · rw [HO5] at h; rw [HN.out.1]; omega
          · omega
          · rw [eM, HM.out, if_neg (by simp [intOf]; omega : ¬(intOf (.int .i64 (o : Nat))).toNat = 0)]
            split
            · omega
            · rename_i h
              simp [intOf] at h
              omega
end Go.Proofs.YtlnilfcjcoclhaaGreatDoor
/- Package tag: digits. -/
namespace Go.Proofs.YtlnilfcjcoclhaaGreatDoor
open Go.RowKit

def digV (G : Nat → Nat) (i : Nat) : Nat := (G (8 * i / 26) / 2 ^ (8 * i % 26) + (if 8 * i / 26 < 4 then G (8 * i / 26 + 1) * 2 ^ (26 - 8 * i % 26) else 0)) % 256
theorem or_add {a b s : Nat} (h : a < 2 ^ s) : a ||| b * 2 ^ s = a + b * 2 ^ s := by
  have h1 := Nat.shiftLeft_add_eq_or_of_lt h b
  rw [Nat.shiftLeft_eq] at h1
  rw [Nat.or_comm, ← h1, Nat.add_comm]
theorem dig_low {x b : Nat} (hx : x < 67108864) : bits .and .i64 ((x : Int) / 2 ^ b) 255 = ((x / 2 ^ b % 256 : Nat) : Int) := by
  have h1 : (x : Int) / 2 ^ b = ((x / 2 ^ b : Nat) : Int) := by simp
  have h2 : x / 2 ^ b ≤ x := Nat.div_le_self _ _
  rw [h1]
  exact bits_255 _ (by omega)
theorem dig_high {x y b : Nat} (hx : x < 67108864) (hy : y < 67108864) (hb : b < 26) : bits .and .i64 (bits .or .i64 ((x : Int) / 2 ^ b) (wrap64 ((y : Int) * 2 ^ (26 - b)))) 255 = (((x / 2 ^ b + y * 2 ^ (26 - b)) % 256 : Nat) : Int) := by
  have h1 : (x : Int) / 2 ^ b = ((x / 2 ^ b : Nat) : Int) := by simp
  have h2 : x / 2 ^ b ≤ x := Nat.div_le_self _ _
  have h3 : 2 ^ (26 - b) ≤ 2 ^ 26 := Nat.pow_le_pow_right (by omega) (by omega)
  have h4 := mul_bound (Nat.le_of_lt hy) h3
  have h5 : (y : Int) * 2 ^ (26 - b) = ((y * 2 ^ (26 - b) : Nat) : Int) := by simp
  have h6 : x / 2 ^ b < 2 ^ (26 - b) := Nat.div_lt_of_lt_mul (by rw [← Nat.pow_add, show b + (26 - b) = 26 by omega]; omega)
  have h7 := or_add (b := y) h6
  rw [h1, h5]
  have h8 : (67108864 : Nat) * 2 ^ 26 = 4503599627370496 := by decide
  rw [h8] at h4
  generalize y * 2 ^ (26 - b) = z at *
  generalize x / 2 ^ b = q at *
  rw [← IntWalk.i64_left, wrap_nat z (by omega), bits_or_i64 q z (by omega) (by omega), h7]
  exact bits_255 _ (by omega)
set_option maxHeartbeats 1000000 in
set_option maxRecDepth 100000 in
theorem digits_any (G : Nat → Nat) (w : World) (hG : ∀ p, p < 5 → G p < 67108864) :
    Calls Tryz.prog 115 #[.agg (S5 G)] w fun e w' => ∃ A, e = .returned (.slice A 17 17) ∧ KH.Reads w' w'.heap.size 1 A 17 (bzW 17 (digV G)) ∧ Below w.heap.size w w' := by
  obtain ⟨i0, hi, hz0, hz1, hz2⟩ := info_parts int_info
  have HG := KH.hid hG
  have k1 := KH.Blk.new w 173 (S5 G)
  have hb1 := (Below.refl w.heap.size w).alloc (Nat.le_refl _) (.cells (S5 G) 173)
  go_enter Tryz.func115, Tryz.ntmps115
  go_wp2_with (at_make; refine wpList_make_full _ rfl _ _ 29 rfl _ 3 i0 (.int .i64 0) 1 Tryz.underlying29 hi hz0 hz1 .i64 .i64 _ _ 17 rfl rfl rfl rfl (by rw [hz2]; omega) (by unfold maxLen; omega) (Nat.le_refl _) ?_; intro w3 hown3 hg3)
  have hb3 := hb1.trans (show Below w.heap.size (w.alloc (.cells (S5 G) 173)) w3 from (Below.refl _ _).grown hg3 (by simp) (fun _ h => by cases h))
  have k3 := k1.below (B := w.heap.size + 1) ((Below.refl _ _).grown hg3 (by simp) (fun _ h => by cases h)) (by omega)
  rw [show (madeCells (Value.int .i64 0).cells (17 * 1)).toList = bzW 17 (fun o => if o < 0 then digV G o else 0) by kernel_rfl] at hown3
  clear hg3 k1 hb1
  have e1 : (w.alloc (.cells (S5 G) 173)).heap.size = w.heap.size + 1 := by simp
  rw [e1] at hown3
  clear e1
  obtain ⟨gb, hgb⟩ : ∃ g, g = w.heap.size + 1 := ⟨_, rfl⟩
  obtain ⟨h1, e1⟩ : ∃ h, h = w.heap.size := ⟨_, rfl⟩
  rw [← hgb] at hown3 ⊢
  rw [← e1] at k3
  conv => pattern w.heap.size; rw [← e1]
  have n1 : h1 ≠ gb := by omega
  have l1 : w.heap.size ≤ gb := by omega
  clear hgb e1 hG
  go_loopw [4, 5, 6, 7, 11] (fun _ _ _ _ t wr => ∃ i : Nat, i ≤ 17 ∧ t = .int .i64 i ∧ wr.ownsRow gb 3 1 (.slice (some ⟨gb, 0, none⟩) 17 17) 17 (bzW 17 fun o => if o < i then digV G o else 0) ∧ Hid (KH.Blk wr h1 173 (S5 G) ∧ Below w.heap.size w wr)) (fun _ _ _ _ t _ => 17 - (intOf t).toNat)
  case atStart => exact ⟨0, Nat.zero_le _, rfl, hown3, k3, hb3⟩
  case round =>
    obtain ⟨i, hi, rfl, hown, hI⟩ := hrel
    clear hown3 hb3 k3
    by_cases hil : i < 17
    · obtain ⟨k1, hb⟩ := hI.out
      have c1 := cell5 (p := 8 * i / 26) k1 (by omega)
      have hl7 := (hown.cellAt i hil).trans (bzW_get _ hil)
      have hf7 := hown.frozenAt i
      rw [if_neg (by omega)] at hl7
      have HD : Hid (digV G i = (G (8 * i / 26) / 2 ^ (8 * i % 26) + (if 8 * i / 26 < 4 then G (8 * i / 26 + 1) * 2 ^ (26 - 8 * i % 26) else 0)) % 256) := rfl
      have HO := KH.hid (hown.stored i (.int .i64 (digV G i : Nat))).1
      have HS : Hid ((bzW 17 fun o => if o < i then digV G o else 0).set i (.int .i64 (digV G i : Nat)) = bzW 17 fun o => if o < i + 1 then digV G o else 0) := by
        unfold Hid
        rw [bzW_set]
        refine bzW_congr fun o ho => ?_
        by_cases e : o = i
        · subst e; rw [if_pos rfl, if_pos (by omega)]
        · rw [if_neg e]
          by_cases h : o < i
          · rw [if_pos h, if_pos (by omega)]
          · rw [if_neg h, if_neg (by omega)]
      rw [HS.out] at HO
      have HK := KH.hid (And.intro (k1.far (p := ⟨gb, i, none⟩) n1 (.int .i64 (digV G i : Nat))) (hb.setCell (p := ⟨gb, i, none⟩) l1 (.int .i64 (digV G i : Nat))))
      have b1 := HG.out (8 * i / 26) (by omega)
      have i0 : (0 : Int) ≤ (i : Int) := by omega
      have i1 : (i : Int) < 17 := by omega
      have d17 : decide ((i : Int) < 17) = true := by rw [decide_eq_true_iff]; omega
      by_cases h4 : 8 * i / 26 < 4
      · have c2 := cell5 (p := 8 * i / 26 + 1) k1 (by omega)
        have b2 := HG.out (8 * i / 26 + 1) (by omega)
        rw [if_pos h4] at HD
        clear hown hI k1 hb HS
        have HE := KH.hid (dig_high b1 b2 (show 8 * i % 26 < 26 by omega))
        go_wp2_with fail
        rw [HE.out, ← HD.out]
        exact ⟨⟨i + 1, by omega, by go_num, HO.out, HK⟩, by simp [intOf]; omega⟩
      · rw [if_neg h4, Nat.add_zero] at HD
        clear hown hI k1 hb HS
        have HE := KH.hid (dig_low (b := 8 * i % 26) b1)
        go_wp2_with fail
        rw [HE.out, ← HD.out]
        exact ⟨⟨i + 1, by omega, by go_num, HO.out, HK⟩, by simp [intOf]; omega⟩
    · obtain rfl : i = 17 := by omega
      have e : (bzW 17 fun o => if o < 17 then digV G o else 0) = bzW 17 (digV G) := bzW_congr fun o ho => by rw [if_pos ho]
      rw [e] at hown
      have HR := KH.hid (KH.Reads.of_own hown)
      have hb := hI.out.2
      clear hown hI
      go_wp2_with fail
      exact bodyPost_ret (v := .slice (some ⟨gb, 0, none⟩) 17 17) (by simp [results, Tryz.results115, go_sem]) rfl ⟨_, rfl, HR.out, hb⟩
end Go.Proofs.YtlnilfcjcoclhaaGreatDoor
/- Package tag: read; rows. -/
namespace Go.Proofs.YtlnilfcjcoclhaaGreatDoor
open Go.RowKit

def rdS (D : Nat → Nat) : Nat → Nat → Nat
  | 0, _ => 0
  | i + 1, p => rdS D i p + (if p = 8 * i / 26 then D i * 2 ^ (8 * i % 26) % 67108864 else 0) + (if p = 8 * i / 26 + 1 then D i * 2 ^ (8 * i % 26) / 67108864 else 0)
def cA : Nat → Nat → Nat
  | 0, _ => 0
  | i + 1, p => cA i p + (if p = 8 * i / 26 then 1 else 0)
def cB : Nat → Nat → Nat
  | 0, _ => 0
  | i + 1, p => cB i p + (if p = 8 * i / 26 + 1 then 1 else 0)
theorem cAB : ∀ n, n ≤ 17 → ∀ p, p < 5 → cA n p ≤ 4 ∧ cB n p ≤ 4 := by decide
theorem sh_le {x b : Nat} (hx : x < 256) (hb : b < 26) : x * 2 ^ b ≤ 8556380160 := by
  have h3 : 2 ^ b ≤ 2 ^ 25 := Nat.pow_le_pow_right (by omega) (by omega)
  have h4 := mul_bound (show x ≤ 255 by omega) h3
  have h8 : 255 * 2 ^ 25 = 8556380160 := by decide
  omega
theorem rdS_cnt {D : Nat → Nat} : ∀ n, (∀ o, o < n → D o < 256) → ∀ p, rdS D n p ≤ cA n p * 67108863 + cB n p * 128
  | 0, _, _ => Nat.zero_le _
  | i + 1, h, p => by
    have ih := rdS_cnt i (fun o ho => h o (by omega)) p
    have hs := sh_le (b := 8 * i % 26) (h i (by omega)) (by omega)
    unfold rdS cA cB
    generalize D i * 2 ^ (8 * i % 26) = y at *
    split <;> split <;> omega
theorem rdS_le {D : Nat → Nat} {n : Nat} (hn : n ≤ 17) (h : ∀ o, o < n → D o < 256) (p : Nat) (hp : p < 5) : rdS D n p ≤ 300000000 := by
  have h1 := rdS_cnt n h p
  obtain ⟨h2, h3⟩ := cAB n hn p hp
  omega
theorem rdS_set (D : Nat → Nat) (i : Nat) : S5 (fun q => if q = 8 * i / 26 + 1 then rdS D i (8 * i / 26 + 1) + D i * 2 ^ (8 * i % 26) / 67108864 else if q = 8 * i / 26 then rdS D i (8 * i / 26) + D i * 2 ^ (8 * i % 26) % 67108864 else rdS D i q) = S5 (rdS D (i + 1)) := by
  refine S5_congr fun p _ => ?_
  rw [show rdS D (i + 1) p = rdS D i p + (if p = 8 * i / 26 then D i * 2 ^ (8 * i % 26) % 67108864 else 0) + (if p = 8 * i / 26 + 1 then D i * 2 ^ (8 * i % 26) / 67108864 else 0) from rfl]
  by_cases e : p = 8 * i / 26 + 1
  · subst e
    rw [if_pos rfl, if_neg (by omega), if_pos rfl]
    omega
  · rw [if_neg e, if_neg e, Nat.add_zero]
    by_cases e2 : p = 8 * i / 26
    · rw [if_pos e2, if_pos e2, e2]
    · rw [if_neg e2, if_neg e2, Nat.add_zero]
theorem rdS_set4 (D : Nat → Nat) (i : Nat) (h : ¬8 * i / 26 < 4) : S5 (fun q => if q = 8 * i / 26 then rdS D i (8 * i / 26) + D i * 2 ^ (8 * i % 26) % 67108864 else rdS D i q) = S5 (rdS D (i + 1)) := by
  refine S5_congr fun p hp => ?_
  rw [show rdS D (i + 1) p = rdS D i p + (if p = 8 * i / 26 then D i * 2 ^ (8 * i % 26) % 67108864 else 0) + (if p = 8 * i / 26 + 1 then D i * 2 ^ (8 * i % 26) / 67108864 else 0) from rfl]
  rw [if_neg (show ¬p = 8 * i / 26 + 1 by omega), Nat.add_zero]
  by_cases e2 : p = 8 * i / 26
  · rw [if_pos e2, if_pos e2, e2]
  · rw [if_neg e2, if_neg e2, Nat.add_zero]
set_option maxHeartbeats 1000000 in
set_option maxRecDepth 100000 in
theorem rdd_any {D : Nat → Nat} {n cap B : Nat} {A : Option Addr} (w : World) (hB : B ≤ w.heap.size) (hr : KH.Reads w B 1 A n (bzW n D)) (hn : n ≤ 17) (hD : ∀ o, o < n → D o < 256) :
    Calls Tryz.prog 111 #[.slice A n cap] w fun e w' => e = .returned (.agg (S5 (rdS D n))) ∧ Below w.heap.size w w' := by
  have HD := KH.hid hD
  have HL := KH.hid fun (i : Nat) (hi : i ≤ n) (p : Nat) (hp : p < 5) => rdS_le (D := D) (n := i) (by omega) (fun o ho => hD o (by omega)) p hp
  have HR := KH.hid hr
  have hp := pack2 w 173 173 (S5 fun _ => 0) (S5 fun _ => 0)
  go_enter Tryz.func111, Tryz.ntmps111
  go_wp2_with fail
  rw [z5]
  generalize (w.alloc (.cells (S5 fun _ => 0) 173)).alloc (.cells (S5 fun _ => 0) 173) = W at *
  obtain ⟨h1, e1⟩ : ∃ h, h = w.heap.size := ⟨_, rfl⟩
  obtain ⟨h2, e2⟩ : ∃ h, h = w.heap.size + 1 := ⟨_, rfl⟩
  rw [← e2] at hp ⊢
  conv => pattern w.heap.size; rw [← e1]
  obtain ⟨k1, k2, hb⟩ := hp
  rw [← e1] at k1
  have HI0 := KH.hid (show KH.Blk W h1 173 (S5 fun _ => 0) ∧ KH.Blk W h2 173 (S5 (rdS D 0)) ∧ Below w.heap.size w W from ⟨k1, k2, hb⟩)
  have n2 : h1 ≠ h2 := by omega
  have l1 : w.heap.size ≤ h1 := by omega
  have l2 : w.heap.size ≤ h2 := by omega
  clear k1 k2 hb e1 e2 hD hr
  go_loopw [4, 5, 6, 9] (fun _ _ _ t wr => ∃ i : Nat, i ≤ n ∧ t = .int .i64 i ∧ Hid (KH.Blk wr h1 173 (S5 fun _ => 0) ∧ KH.Blk wr h2 173 (S5 (rdS D i)) ∧ Below w.heap.size w wr)) (fun _ _ _ t _ => n - (intOf t).toNat)
  case atStart => exact ⟨0, Nat.zero_le _, rfl, HI0⟩
  case round =>
    obtain ⟨i, hi, rfl, hI⟩ := hrel
    clear HI0
    by_cases hil : i < n
    · obtain ⟨k1, k2, hb⟩ := hI.out
      have hrr := (HR.out.keep (fun p hp => hb.cell (p := p) (by omega)))
      obtain ⟨ad, u, rfl, hbl, hu, hc⟩ := hrr.at_ hil
      rw [bzW_get _ hil] at hu
      obtain rfl := (Option.some.inj hu).symm
      have bD := HD.out i hil
      have c1 := cell5 (p := 8 * i / 26) k2 (by omega)
      have f1 := k2.frozen (8 * i / 26)
      have bz1 := HL.out i hi (8 * i / 26) (by omega)
      have hy := sh_le (b := 8 * i % 26) bD (by omega)
      have hsx : (D i : Int) * 2 ^ (8 * i % 26) = ((D i * 2 ^ (8 * i % 26) : Nat) : Int) := by simp
      have h26 : 8 * i % 26 < 26 := by omega
      have i0 : (0 : Int) ≤ (i : Int) := by omega
      have i1 : (i : Int) < 17 := by omega
      have dn : decide ((i : Int) < (n : Int)) = true := by rw [decide_eq_true_iff]; omega
      by_cases h4 : 8 * i / 26 < 4
      · have c2 := cell5 (p := 8 * i / 26 + 1) k2 (by omega)
        have f2 := k2.frozen (8 * i / 26 + 1)
        have bz2 := HL.out i hi (8 * i / 26 + 1) (by omega)
        have hs := set5 (p := 8 * i / 26 + 1) (v := rdS D i (8 * i / 26 + 1) + D i * 2 ^ (8 * i % 26) / 67108864) (set5 (p := 8 * i / 26) (v := rdS D i (8 * i / 26) + D i * 2 ^ (8 * i % 26) % 67108864) k2)
        rw [rdS_set] at hs
        have HN := KH.hid (And.intro ((k1.far (p := ⟨h2, 8 * i / 26, none⟩) n2 (.int .i64 (rdS D i (8 * i / 26) + D i * 2 ^ (8 * i % 26) % 67108864 : Nat))).far (p := ⟨h2, 8 * i / 26 + 1, none⟩) n2 (.int .i64 (rdS D i (8 * i / 26 + 1) + D i * 2 ^ (8 * i % 26) / 67108864 : Nat))) (And.intro hs ((hb.setCell (p := ⟨h2, 8 * i / 26, none⟩) l2 (.int .i64 (rdS D i (8 * i / 26) + D i * 2 ^ (8 * i % 26) % 67108864 : Nat))).setCell (p := ⟨h2, 8 * i / 26 + 1, none⟩) l2 (.int .i64 (rdS D i (8 * i / 26 + 1) + D i * 2 ^ (8 * i % 26) / 67108864 : Nat)))))
        clear hs k1 k2 hb hI hrr hbl hu
        generalize D i * 2 ^ (8 * i % 26) = y at *
        generalize rdS D i (8 * i / 26 + 1) = z2 at *
        generalize rdS D i (8 * i / 26) = z1 at *
        generalize D i = x at *
        have hlo := bits_low y (by omega)
        have ev1 : ((z1 + y % 67108864 : Nat) : Int) = (z1 : Int) + (y : Int) % 67108864 := by omega
        have ev2 : ((z2 + y / 67108864 : Nat) : Int) = (z2 : Int) + (y : Int) / 67108864 := by omega
        rw [ev1, ev2] at HN
        clear ev1 ev2
        go_wp2_with fail
        exact ⟨⟨i + 1, by omega, by go_num, HN⟩, by simp [intOf]; omega⟩
      · have hs := set5 (p := 8 * i / 26) (v := rdS D i (8 * i / 26) + D i * 2 ^ (8 * i % 26) % 67108864) k2
        rw [rdS_set4 D i h4] at hs
        have HN := KH.hid (And.intro (k1.far (p := ⟨h2, 8 * i / 26, none⟩) n2 (.int .i64 (rdS D i (8 * i / 26) + D i * 2 ^ (8 * i % 26) % 67108864 : Nat))) (And.intro hs (hb.setCell (p := ⟨h2, 8 * i / 26, none⟩) l2 (.int .i64 (rdS D i (8 * i / 26) + D i * 2 ^ (8 * i % 26) % 67108864 : Nat)))))
        clear hs k1 k2 hb hI hrr hbl hu
        generalize D i * 2 ^ (8 * i % 26) = y at *
        generalize rdS D i (8 * i / 26) = z1 at *
        generalize D i = x at *
        have hlo := bits_low y (by omega)
        have ev1 : ((z1 + y % 67108864 : Nat) : Int) = (z1 : Int) + (y : Int) % 67108864 := by omega
        rw [ev1] at HN
        clear ev1
        go_wp2_with fail
        exact ⟨⟨i + 1, by omega, by go_num, HN⟩, by simp [intOf]; omega⟩
    · obtain rfl : i = n := by omega
      obtain ⟨k1, k2, hb⟩ := hI.out
      obtain ⟨c0, c1, c2, c3, c4⟩ := src5 k2
      obtain ⟨x0, x1, x2, x3, x4, f0, f1, f2, f3, f4⟩ := dst5 k1
      have HRR := KH.hid (And.intro k1 hb)
      have dn : decide ((i : Int) < (i : Int)) = false := by rw [decide_eq_false_iff_not]; omega
      clear k1 k2 hb hI
      go_wp2_with fail
      exact ret5 (F := rdS D i) rfl HRR.out.1 l1 HRR.out.2 (by rfl) rfl
end Go.Proofs.YtlnilfcjcoclhaaGreatDoor
/- Package tag: rows. -/
namespace Go.Proofs.YtlnilfcjcoclhaaGreatDoor
open Go.RowKit

def RowOk (D : Nat → Nat) : Prop := (∀ o, o < 17 → D o < 256) ∧ (D 16 < 3 ∨ (D 16 = 3 ∧ ((∃ o, o < 15 ∧ D (1 + o) < 255) ∨ D 0 < 251)))
theorem digV0 (G : Nat → Nat) : digV G 0 = (G 0 + G 1 * 67108864) % 256 := by simp [digV]
theorem digV1 (G : Nat → Nat) : digV G 1 = (G 0 / 256 + G 1 * 262144) % 256 := by simp [digV]
theorem digV2 (G : Nat → Nat) : digV G 2 = (G 0 / 65536 + G 1 * 1024) % 256 := by simp [digV]
theorem digV3 (G : Nat → Nat) : digV G 3 = (G 0 / 16777216 + G 1 * 4) % 256 := by simp [digV]
theorem digV4 (G : Nat → Nat) : digV G 4 = (G 1 / 64 + G 2 * 1048576) % 256 := by simp [digV]
theorem digV5 (G : Nat → Nat) : digV G 5 = (G 1 / 16384 + G 2 * 4096) % 256 := by simp [digV]
theorem digV6 (G : Nat → Nat) : digV G 6 = (G 1 / 4194304 + G 2 * 16) % 256 := by simp [digV]
theorem digV7 (G : Nat → Nat) : digV G 7 = (G 2 / 16 + G 3 * 4194304) % 256 := by simp [digV]
theorem digV8 (G : Nat → Nat) : digV G 8 = (G 2 / 4096 + G 3 * 16384) % 256 := by simp [digV]
theorem digV9 (G : Nat → Nat) : digV G 9 = (G 2 / 1048576 + G 3 * 64) % 256 := by simp [digV]
theorem digV10 (G : Nat → Nat) : digV G 10 = (G 3 / 4 + G 4 * 16777216) % 256 := by simp [digV]
theorem digV11 (G : Nat → Nat) : digV G 11 = (G 3 / 1024 + G 4 * 65536) % 256 := by simp [digV]
theorem digV12 (G : Nat → Nat) : digV G 12 = (G 3 / 262144 + G 4 * 256) % 256 := by simp [digV]
theorem digV13 (G : Nat → Nat) : digV G 13 = (G 4) % 256 := by simp [digV]
theorem digV14 (G : Nat → Nat) : digV G 14 = (G 4 / 256) % 256 := by simp [digV]
theorem digV15 (G : Nat → Nat) : digV G 15 = (G 4 / 65536) % 256 := by simp [digV]
theorem digV16 (G : Nat → Nat) : digV G 16 = (G 4 / 16777216) % 256 := by simp [digV]
theorem ones {g0 g1 g2 g3 g4 : Nat} (b0 : g0 < 67108864) (b1 : g1 < 67108864) (b2 : g2 < 67108864) (b3 : g3 < 67108864) (b4 : g4 < 67108864)
    (a0 : ¬(g0 + g1 * 67108864) % 256 < 251) (a1 : (g0 / 256 + g1 * 262144) % 256 = 255) (a2 : (g0 / 65536 + g1 * 1024) % 256 = 255) (a3 : (g0 / 16777216 + g1 * 4) % 256 = 255)
    (a4 : (g1 / 64 + g2 * 1048576) % 256 = 255) (a5 : (g1 / 16384 + g2 * 4096) % 256 = 255) (a6 : (g1 / 4194304 + g2 * 16) % 256 = 255)
    (a7 : (g2 / 16 + g3 * 4194304) % 256 = 255) (a8 : (g2 / 4096 + g3 * 16384) % 256 = 255) (a9 : (g2 / 1048576 + g3 * 64) % 256 = 255)
    (a10 : (g3 / 4 + g4 * 16777216) % 256 = 255) (a11 : (g3 / 1024 + g4 * 65536) % 256 = 255) (a12 : (g3 / 262144 + g4 * 256) % 256 = 255)
    (a13 : g4 % 256 = 255) (a14 : g4 / 256 % 256 = 255) (a15 : g4 / 65536 % 256 = 255) (a16 : ¬g4 / 16777216 % 256 < 3) : 67108859 ≤ g0 ∧ g1 = 67108863 ∧ g2 = 67108863 ∧ g3 = 67108863 ∧ g4 = 67108863 := by
  have f4 : g4 = 67108863 := by clear a0 a1 a2 a3 a4 a5 a6 a7 a8 a9 a10 a11 a12; omega
  have f3 : g3 / 4 = 16777215 := by clear a0 a1 a2 a3 a4 a5 a6 a7 a8 a9 a13 a14 a15 a16; omega
  have f3b : g2 / 1048576 = 63 ∧ g3 % 4 = 3 := by clear a0 a1 a2 a3 a4 a5 a6 a7 a8 a10 a11 a12 a13 a14 a15 a16; omega
  have f3c : g3 = 67108863 := by clear a0 a1 a2 a3 a4 a5 a6 a7 a8 a9 a10 a11 a12 a13 a14 a15 a16; omega
  have f2 : g2 / 16 = 4194303 := by clear a0 a1 a2 a3 a4 a5 a6 a10 a11 a12 a13 a14 a15 a16; omega
  have f2b : g1 / 4194304 = 15 ∧ g2 % 16 = 15 := by clear a0 a1 a2 a3 a4 a5 a7 a8 a9 a10 a11 a12 a13 a14 a15 a16; omega
  have f2c : g2 = 67108863 := by clear a0 a1 a2 a3 a4 a5 a6 a7 a8 a9 a10 a11 a12 a13 a14 a15 a16; omega
  have f1 : g1 / 64 = 1048575 := by clear a0 a1 a2 a3 a7 a8 a9 a10 a11 a12 a13 a14 a15 a16; omega
  have f1b : g0 / 16777216 = 3 ∧ g1 % 64 = 63 := by clear a0 a1 a2 a4 a5 a6 a7 a8 a9 a10 a11 a12 a13 a14 a15 a16; omega
  have f1c : g1 = 67108863 := by clear a0 a1 a2 a3 a4 a5 a6 a7 a8 a9 a10 a11 a12 a13 a14 a15 a16; omega
  have f0 : 67108859 ≤ g0 := by clear a3 a4 a5 a6 a7 a8 a9 a10 a11 a12 a13 a14 a15 a16; omega
  exact ⟨f0, f1c, f2c, f3c, f4⟩
theorem add_lit (ad : Addr) : ad.add 16 = ⟨ad.block, ad.off + 16, none⟩ := by simp [Addr.add]
theorem add_one (ad : Addr) (i : Nat) : ad.add (1 + i) = ⟨ad.block, ad.off + 1 + i, none⟩ := by
  unfold Addr.add
  rw [if_neg (by omega)]; simp
theorem add_zero' (ad : Addr) : ad.add 0 = ad := by simp [Addr.add]
theorem finV_lt {G : Nat → Nat} (hG : ∀ p, p < 5 → G p < 67108864) (p : Nat) (hp : p < 5) : finV G p < 67108864 := by
  have h0 := hG 0 (by omega)
  have h1 := hG p hp
  unfold finV
  split
  · split <;> omega
  · exact h1
theorem row_fin {G : Nat → Nat} (hG : ∀ p, p < 5 → G p < 67108864) : RowOk (digV (finV G)) := by
  refine ⟨fun o _ => Nat.mod_lt _ (by omega), ?_⟩
  have g0 := finV_lt hG 0 (by omega)
  have g1 := finV_lt hG 1 (by omega)
  have g2 := finV_lt hG 2 (by omega)
  have g3 := finV_lt hG 3 (by omega)
  have g4 := finV_lt hG 4 (by omega)
  by_cases h16 : digV (finV G) 16 < 3
  · exact .inl h16
  · refine .inr ⟨by have := digV16 (finV G); omega, ?_⟩
    by_cases hx : ∃ o, o < 15 ∧ digV (finV G) (1 + o) < 255
    · exact .inl hx
    · refine .inr ?_
      have hall : ∀ o, o < 15 → digV (finV G) (1 + o) = 255 := fun o ho => by
        have h1 : digV (finV G) (1 + o) < 256 := Nat.mod_lt _ (by omega)
        by_cases h2 : digV (finV G) (1 + o) < 255
        · exact absurd ⟨o, ho, h2⟩ hx
        · omega
      have a1 := hall 0 (by omega)
      have a2 := hall 1 (by omega)
      have a3 := hall 2 (by omega)
      have a4 := hall 3 (by omega)
      have a5 := hall 4 (by omega)
      have a6 := hall 5 (by omega)
      have a7 := hall 6 (by omega)
      have a8 := hall 7 (by omega)
      have a9 := hall 8 (by omega)
      have a10 := hall 9 (by omega)
      have a11 := hall 10 (by omega)
      have a12 := hall 11 (by omega)
      have a13 := hall 12 (by omega)
      have a14 := hall 13 (by omega)
      have a15 := hall 14 (by omega)
      simp only [Nat.reduceAdd] at a1 a2 a3 a4 a5 a6 a7 a8 a9 a10 a11 a12 a13 a14 a15
      rw [digV1] at a1
      rw [digV2] at a2
      rw [digV3] at a3
      rw [digV4] at a4
      rw [digV5] at a5
      rw [digV6] at a6
      rw [digV7] at a7
      rw [digV8] at a8
      rw [digV9] at a9
      rw [digV10] at a10
      rw [digV11] at a11
      rw [digV12] at a12
      rw [digV13] at a13
      rw [digV14] at a14
      rw [digV15] at a15
      rw [digV16] at h16
      rw [digV0]
      refine Decidable.byContradiction fun a0 => ?_
      have h5 := ones g0 g1 g2 g3 g4 a0 a1 a2 a3 a4 a5 a6 a7 a8 a9 a10 a11 a12 a13 a14 a15 h16
      by_cases hF : 67108859 ≤ G 0 ∧ G 1 = 67108863 ∧ G 2 = 67108863 ∧ G 3 = 67108863 ∧ G 4 = 67108863
      · have : finV G 4 = 0 := by unfold finV; rw [if_pos hF]; rfl
        have := h5.2.2.2.2
        omega
      · have e : ∀ p, finV G p = G p := fun p => by unfold finV; rw [if_neg hF]
        rw [e, e, e, e, e] at h5
        exact hF h5
set_option maxHeartbeats 1000000 in
set_option maxRecDepth 100000 in
theorem isRow_yes {D : Nat → Nat} {cap B : Nat} {A : Option Addr} (w : World) (hr : KH.Reads w B 1 A 17 (bzW 17 D)) (hc : 17 ≤ cap) (hD : RowOk D) :
    Calls Tryz.prog 110 #[.slice A 17 cap] w fun e w' => e = .returned (.bool true) ∧ w' = w := by
  obtain ⟨ad, u0, rfl, hbl, hu, c0⟩ := hr.at_ (k := 0) (by omega)
  rw [bzW_get _ (by omega)] at hu
  obtain rfl := (Option.some.inj hu).symm
  have hat : ∀ k, k < 17 → w.cell? (ad.add k) = some (.int .i64 (D k : Nat)) := fun k hk => by
    obtain ⟨ad', u, e, -, hu, c⟩ := hr.at_ (k := k) hk
    obtain rfl := Option.some.inj e
    rw [bzW_get _ hk] at hu
    obtain rfl := Option.some.inj hu
    exact c
  have c16 := hat 16 (by omega)
  have HAT := KH.hid hat
  have HD := KH.hid hD.1
  have HO := KH.hid hD.2
  clear hat hD hu
  go_enter Tryz.func110, Tryz.ntmps110
  go_wp2_with fail
  go_loopw [4, 12] (fun _ t wr => ∃ i : Nat, i ≤ 17 ∧ t = .int .i64 i ∧ wr = w) (fun _ t _ => 17 - (intOf t).toNat)
  case atStart => exact ⟨0, Nat.zero_le _, rfl, rfl⟩
  case round =>
    obtain ⟨i, hi, rfl, rfl⟩ := hrel
    by_cases hil : i < 17
    · have hc1 := HAT.out i hil
      have b1 := HD.out i hil
      generalize D i = x at *
      have i0 : (0 : Int) ≤ (i : Int) := by omega
      have i1 : (i : Int) < 17 := by omega
      have d1 : decide ((x : Int) < 0) = false := by rw [decide_eq_false_iff_not]; omega
      have d2 : decide ((255 : Int) < (x : Int)) = false := by rw [decide_eq_false_iff_not]; omega
      have d17 : decide ((i : Int) < 17) = true := by rw [decide_eq_true_iff]; omega
      go_wp2_with fail
      exact ⟨⟨i + 1, by omega, by go_num, by first | rfl | trivial⟩, by simp [intOf]; omega⟩
    · obtain rfl : i = 17 := by omega
      rcases HO.out with h3 | ⟨h3, hx⟩
      · rw [add_lit] at c16
        have d3 : decide (((D 16 : Nat) : Int) < 3) = true := by rw [decide_eq_true_iff]; omega
        rw [show ((17 : Nat) : Int) = (17 : Int) from rfl]
        go_wp2_with fail
        exact bodyPost_ret (v := .bool true) (by simp [results, Tryz.results110, go_sem]) rfl ⟨rfl, rfl⟩
      · rw [add_lit] at c16
        have d3 : decide (((D 16 : Nat) : Int) < 3) = false := by rw [decide_eq_false_iff_not]; omega
        have d4 : decide ((3 : Int) < ((D 16 : Nat) : Int)) = false := by rw [decide_eq_false_iff_not]; omega
        rw [show ((17 : Nat) : Int) = (17 : Int) from rfl]
        have HX := KH.hid hx
        have c0' := c0
        rw [add_zero'] at c0'
        clear hx h3
        go_wp2_with fail
        go_loopw [6, 34] (fun _ t w' => ∃ i : Nat, i ≤ 15 ∧ t = .int .i64 i ∧ (∀ o, o < i → D (1 + o) = 255) ∧ w' = wr) (fun _ t _ => 15 - (intOf t).toNat)
        case atStart => exact ⟨0, Nat.zero_le _, rfl, fun o ho => absurd ho (by omega), rfl⟩
        case round =>
          obtain ⟨i, hi, rfl, hall, rfl⟩ := hrel
          by_cases hil : i < 15
          · have hc1 := HAT.out (1 + i) (by omega)
            rw [add_one] at hc1
            have b1 := HD.out (1 + i) (by omega)
            have i0 : (0 : Int) ≤ (i : Int) := by omega
            have i1 : (i : Int) < 15 := by omega
            have d17 : decide ((i : Int) < 15) = true := by rw [decide_eq_true_iff]; omega
            by_cases hx : D (1 + i) < 255
            · have dx : decide (((D (1 + i) : Nat) : Int) < 255) = true := by rw [decide_eq_true_iff]; omega
              generalize D (1 + i) = x at *
              go_wp2_with fail
              exact bodyPost_ret (v := .bool true) (by simp [results, Tryz.results110, go_sem]) rfl ⟨rfl, rfl⟩
            · have dx : decide (((D (1 + i) : Nat) : Int) < 255) = false := by rw [decide_eq_false_iff_not]; omega
              have HN : Hid (∀ o, o < i + 1 → D (1 + o) = 255) := fun o ho => by
                by_cases e : o = i
                · subst e; omega
                · exact hall o (by omega)
              clear hall hx b1
              generalize D (1 + i) = x at *
              go_wp2_with fail
              exact ⟨⟨i + 1, by omega, by go_num, HN, by first | rfl | trivial⟩, by simp [intOf]; omega⟩
          · obtain rfl : i = 15 := by omega
            have h0 : D 0 < 251 := by
              rcases HX.out with ⟨o, ho, h⟩ | h
              · exact absurd (hall o ho) (by omega)
              · exact h
            have dx : decide (((D 0 : Nat) : Int) < 251) = true := by rw [decide_eq_true_iff]; omega
            clear hall h0
            rw [show ((15 : Nat) : Int) = (15 : Int) from rfl]
            go_wp2_with fail
            exact bodyPost_ret (v := .bool true) (by simp [results, Tryz.results110, go_sem]) rfl ⟨rfl, rfl⟩
end Go.Proofs.YtlnilfcjcoclhaaGreatDoor
