/- The walk of share.Tape, where it tells a tape. -/
import Derived.Test.YtdeoibgedjbeiaaDoorTapeD
import Derived.Deep.DeepCutAuto
namespace Go.Proofs.YtdeoibgedjbeiaaDoor
open Go.RowKit

theorem noPanic_normal {Q : Exit → Act → World → Prop} {a : Act} {w : World} (h : Q .normal a w) : NoPanic Q .normal a w := h
/-- a new row of cells lies in a block of its own -/
def NewRow (w wx : World) (v : Value) (cs : List Value) : Prop := ∃ g, v = .pointer (some ⟨g, 0, none⟩) ∧ wx.rangeAt g 0 cs ∧ w.heap.size ≤ g ∧ g < wx.heap.size ∧ Below w.heap.size w wx
theorem there_new (w : World) {n : Nat} (h : n = 32) : (w.alloc (.cells #[.int .u8 0, .int .u8 0, .int .u8 0, .int .u8 0, .int .u8 0, .int .u8 0, .int .u8 0, .int .u8 0, .int .u8 0, .int .u8 0, .int .u8 0, .int .u8 0, .int .u8 0, .int .u8 0, .int .u8 0, .int .u8 0, .int .u8 0, .int .u8 0, .int .u8 0, .int .u8 0, .int .u8 0, .int .u8 0, .int .u8 0, .int .u8 0, .int .u8 0, .int .u8 0, .int .u8 0, .int .u8 0, .int .u8 0, .int .u8 0, .int .u8 0, .int .u8 0] 48)).there w.heap.size 0 n := by
  subst h
  rw [zlit]
  exact blk_there (KH.Blk.new w 48 (bl 32 fun _ => 0).toArray)
theorem wpAnyH_mono {P : Program} {md : Region.Mode} {ops : Array Oper} {Q : Exit → Act → World → Prop} {S S' : World → Prop} (hS : ∀ w, S' w → S w) :
    ∀ (fuel : Nat) (listed : Array Bool) (a : Act) (w : World), wpAnyH P md ops Q S' fuel listed a w → wpAnyH P md ops Q S fuel listed a w
  | 0, _, _, _, h => h
  | fuel + 1, _, _, _, h => ⟨h.1, fun i hi => wpOp_mono (fun a' w' h' => ⟨hS w' h'.1, wpAnyH_mono hS fuel _ a' w' h'.2⟩) (h.2 i hi)⟩
theorem cell_setCells_far {g : Nat} {p : Addr} (hp : p.block ≠ g) : ∀ (vs : List Value) (o : Nat) (w : World), (w.setCells g o vs).cell? p = w.cell? p
  | [], _, _ => rfl
  | v :: r, o, w => by
    rw [World.setCells, cell_setCells_far hp r (o + 1), World.cell?_setCell_other _ _ _ _ (fun e => hp (by rw [← e]))]
theorem there_below {B g o n : Nat} {w w' : World} (hb : Below B w w') (h : w.there g o n) (hg : g < B) : w'.there g o n := fun j hj => by
  obtain ⟨h1, h2⟩ := h j hj
  refine ⟨by rw [hb.cell (p := ⟨g, o + j, none⟩) hg]; exact h1, ?_⟩
  unfold World.frozen? at h2 ⊢
  rw [hb.block g hg]; exact h2
theorem range_below {B g o : Nat} {w w' : World} {cs : List Value} (hb : Below B w w') (h : w.rangeAt g o cs) (hg : g < B) : w'.rangeAt g o cs := fun j v hv => by
  rw [hb.cell (p := ⟨g, o + j, none⟩) hg]; exact h j v hv
theorem range_bytes (w : World) {s : ByteArray} (hs : s.size = 32) : (Lib.bytesWorld w 5 s).rangeAt w.heap.size 0 (bl 32 (sb s)) := fun j v hv => by
  have hj : j < 32 := by
    rcases Nat.lt_or_ge j 32 with h | h
    · exact h
    · rw [List.getElem?_eq_none (by rw [bl_length]; exact h)] at hv; cases hv
  rw [bl_get _ hj] at hv
  rw [Nat.zero_add, Lib.bytesWorld_cell w _ s j (by omega), ← hv]; rfl

theorem setCells_heap (g : Nat) : ∀ (vs : List Value) (o : Nat) (w : World), (w.setCells g o vs).heap.size = w.heap.size
  | [], _, _ => rfl
  | v :: r, o, w => by rw [World.setCells, setCells_heap g r (o + 1)]; simp
theorem reads_setCells {w : World} {B size n g : Nat} {ad : Addr} {xs : List Value} (h : KH.Reads w B size (some ad) n xs) (hp : ad.block ≠ g) (vs : List Value) (o : Nat) : KH.Reads (w.setCells g o vs) B size (some ad) n xs := by
  refine ⟨h.1, fun hn => ?_⟩
  obtain ⟨a, he, hb, hc⟩ := h.2 hn
  injection he with he
  subst he
  exact ⟨ad, rfl, hb, fun i u hi => by rw [cell_setCells_far (by rw [KH.block_of_add]; exact hp)]; exact hc i u hi⟩
theorem blk_tape_step {w : World} {g n k q : Nat} {t : TypeId} {s : ByteArray} {l : List (Int × ByteArray)} {G : Nat → Nat} (h : KH.Blk w g t (bl (n * 32) (tF s l k q)).toArray) (hq : q < n) (hG : ∀ j, j < 32 → G j = tpF s l (k + 1) q j) :
    KH.Blk (w.setCells g (q * 32) (bl 32 G)) g t (bl (n * 32) (tF s l k (q + 1))).toArray := by
  have h1 := blk_mid (G := G) h (show q * 32 + 32 ≤ n * 32 by omega)
  have e : (bl (n * 32) fun p => if q * 32 ≤ p ∧ p < q * 32 + 32 then G (p - q * 32) else tF s l k q p) = bl (n * 32) (tF s l k (q + 1)) := bl_congr fun o _ => by
    rw [← tF_step]
    by_cases ho : q * 32 ≤ o ∧ o < q * 32 + 32
    · rw [if_pos ho, if_pos ho, hG _ (by omega)]
    · rw [if_neg ho, if_neg ho]
  rw [e] at h1; exact h1
theorem blk_tape_next {w : World} {g n k : Nat} {t : TypeId} {s : ByteArray} {l : List (Int × ByteArray)} (h : KH.Blk w g t (bl (n * 32) (tF s l k n)).toArray) : KH.Blk w g t (bl (n * 32) (tF s l (k + 1) 0)).toArray := by
  have e : bl (n * 32) (tF s l k n) = bl (n * 32) (tF s l (k + 1) 0) := bl_congr fun o ho => tF_next ho
  rw [e] at h; exact h
theorem blk_tape_all {w : World} {g n : Nat} {t : TypeId} {s : ByteArray} {l : List (Int × ByteArray)} (h : KH.Blk w g t (bl (n * 32) (tF s l n 0)).toArray) (hl : l.length = n) : KH.Blk w g t (bl (n * 32) (tapF s l)).toArray := by
  have e : bl (n * 32) (tF s l n 0) = bl (n * 32) (tapF s l) := bl_congr fun o _ => by rw [← hl]; exact tF_all s l o
  rw [e] at h; exact h
theorem addr_at (g j : Nat) : (⟨g, 0, none⟩ : Addr).add j = ⟨g, j, none⟩ := by unfold Addr.add; split <;> simp_all
theorem bl_snoc32 (i : Nat) (F : Nat → Nat) : bl ((i + 1) * 32) F = bl (i * 32) F ++ bl 32 fun j => F (i * 32 + j) := by
  unfold bl
  rw [show (i + 1) * 32 = i * 32 + 32 by omega, List.range_add, List.map_append, List.map_map]
  rfl
theorem newRow_set {w w1 : World} {g : Nat} {cs : List Value} (h1 : w.heap.size ≤ g) (h2 : g < w1.heap.size) (hb : Below w.heap.size w w1) (ht : w1.there g 0 cs.length) : NewRow w (w1.setCells g 0 cs) (.pointer (some ⟨g, 0, none⟩)) cs :=
  ⟨g, rfl, World.rangeAt_setCells_same _ _ _ _ ht, h1, by rw [setCells_heap]; exact h2, below_setCells h1 cs 0 w1 hb⟩

set_option maxHeartbeats 2000000 in
set_option maxRecDepth 100000 in
theorem tape_yes {n : Nat} {A : Option Addr} (c : Nat) {l : List (Int × ByteArray)} {w : World} (s : ByteArray) (h : ShIn w w.heap.size A n l) (hs : s.size = 32) (hr : rightS l 1 = true) (hn : n ≤ 254) :
    Calls Tryd.prog 13 #[.string s, .slice A n c] w fun e w' => e = .returned (.tuple #[.string (tx (n * 32) (tapF s l)), .int .i64 0]) ∧ Below w.heap.size w w' := by
  obtain ⟨i1, hi1, hy0, hy1, hy2⟩ := info_parts line_row
  obtain ⟨i2, hi2, hx0, hx1, hx2⟩ := info_parts byte_info
  have hl := h.len
  have HL := KH.hid hl
  have HR := KH.hid (rightS_iff.1 hr)
  have h1n : 1 ≤ n := by have := HR.out.1; omega
  have hall : allB (l.map (·.1)) = true := by
    rw [allB_iff]; intro x hx
    obtain ⟨p, hp, rfl⟩ := List.mem_map.1 hx
    have := HR.out.2.2.2 p hp; omega
  have HALL := KH.hid hall
  have HD : Hid (KH.Dg (xsN l) ∧ (xsN l).Nodup) := right_dg (right_one hr)
  have hnm : n ≤ maxLen := by unfold maxLen; omega
  have hsz : ∀ p ∈ l, p.2.size ≤ maxLen := fun p hp => by rw [(HR.out.2.2.2 p hp).2.2]; unfold maxLen; omega
  have hse : ((s.size : Int) != 32) = false := by simp [hs]
  have HS := KH.hid hs
  have hne : ((n : Int) == 255) = false := by simp; omega
  clear hl hall hs
  go_enter Tryd.func13, Tryd.ntmps13
  go_wp2_with fail
  refine (sright_any _ h hnm 1 (by omega) (by omega) hsz).mono ?_; rintro e w1 ⟨rfl, hb1⟩
  rw [hr]
  clear hr hsz
  have hs1 := hb1.size
  go_wp2_with fail
  refine (new_any _).mono ?_; rintro e w2 ⟨rfl, hF, hb2, hs2⟩
  have hz2 := hb2.size
  have h2 : ShIn w2 w2.heap.size A n l := KH.Reads.more (KH.Reads.below (KH.Reads.below h hb1) (hb2.mono hs1)) (by omega)
  go_wp2_with fail
  refine (places_any _ h2 (by omega)).mono ?_; rintro e w3 ⟨g3, rfl, ho3, hb3⟩
  have hr3 := KH.Reads.of_own ho3
  have hs3 := hb3.size
  have hF3 := hF.below hb3 hs2
  clear ho3
  go_wp2_with fail
  refine (zeros_any _ hr3 (by omega) HALL.out hF3 (by omega)).mono ?_; rintro e w4 ⟨g4, c4, rfl, ho4, hb4⟩
  have hs4 := hb4.size
  have hr4 := KH.Reads.of_own ho4
  have hF4 := hF3.below hb4 (by omega)
  have hB4 := ((hb1.trans (hb2.mono hs1)).trans (hb3.mono (by omega))).trans (hb4.mono (by omega))
  clear ho4 hr3 hF3 hF hb1 hb2 hb3 hb4 h2
  have hbF : w1.heap.size < w4.heap.size := by omega
  have hwz : w.heap.size ≤ w4.heap.size := hB4.size
  clear hs1 hs2 hs3 hs4 hz2
  have hZ : KH.zp (nats (l.map (·.1))) n = KH.zp (xsN l) (xsN l).length := by rw [xsN_length, HL.out]; rfl
  rw [hZ] at hr4
  clear hZ
  generalize w1.heap.size = bF at *
  go_wp2_with (at_make; refine wpList_make_full _ rfl _ _ 44 rfl w4.heap.size 48 i1 _ 32 Tryd.underlying44 hi1 hy0 hy1 .i64 .i64 _ _ n rfl rfl rfl rfl (by rw [hy2]; omega) hnm (Nat.le_refl _) ?_; intro w5 hown5 hg5)
  have hb5 : Below w4.heap.size w4 w5 := (Below.refl _ _).grown hg5 (Nat.le_refl _) (fun _ h => by cases h)
  rw [made_lines] at hown5
  have hBk5 := own_blk hown5
  rw [bl_congr (G := tF s l 0 0) fun o _ => (tF_zero s l o).symm] at hBk5
  have hB5 := hB4.trans (hb5.mono hwz)
  have h5 : ShIn w5 w.heap.size A n l := KH.Reads.below h hB5
  have hr5 := KH.Reads.below hr4 hb5
  have hF5 := hF4.below hb5 hbF
  clear hown5 hg5 hr4 hF4 hb5 hB4 h
  generalize w4.heap.size = gT at *
  go_loopw [49] (fun i wr => ∃ k : Nat, k ≤ n ∧ i = .int .i64 k ∧ KH.Blk wr gT 48 (bl (n * 32) (tF s l k 0)).toArray ∧ Below gT w5 wr) (fun i _ => n - (intOf i).toNat)
  case atStart => exact ⟨0, Nat.zero_le _, rfl, hBk5, Below.refl _ _⟩
  case round =>
    obtain ⟨k, hk, rfl, hB, hb⟩ := hrel
    clear hBk5
    have hgT := hB.lt
    by_cases hlt : k < n
    · obtain ⟨ad, X, b, rfl, hab, hx5, hc1, hc2⟩ := ShIn.at_ (KH.Reads.below h5 (hb.mono hwz)) hlt
      have hb32 : b.size = 32 := (HR.out.2.2.2 _ (List.mem_of_getElem? hx5)).2.2
      have hX1 := (HR.out.2.2.2 _ (List.mem_of_getElem? hx5)).1
      have hX2 := (HR.out.2.2.2 _ (List.mem_of_getElem? hx5)).2.1
      obtain ⟨x, rfl⟩ := Int.eq_ofNat_of_zero_le (show 0 ≤ X by simp at hX1; omega)
      have hx1 : 1 ≤ x := by simp at hX1; omega
      have hx8 : x < 256 := by simp at hX2; omega
      have HX : Hid ((xsN l).getD k 0 = x) := by unfold Hid; rw [xsN_get hx5]; exact Int.toNat_natCast x
      have HX5 := KH.hid hx5
      clear hX1 hX2 hx5
      have hb6 := hb.alloc (by omega) (.cells #[.int .i64 x, .string b] 36)
      have hB6 := hB.alloc (.cells #[.int .i64 x, .string b] 36)
      have hcx : (wr.alloc (.cells #[.int .i64 x, .string b] 36)).cell? ⟨wr.heap.size, 0, none⟩ = some (.int .i64 x) := by simp
      have hcb : (wr.alloc (.cells #[.int .i64 x, .string b] 36)).cell? ⟨wr.heap.size, 1, none⟩ = some (.string b) := by rw [World.cell?_alloc_at _ _ _ _ rfl]; rfl
      have hz6 : (wr.alloc (.cells #[.int .i64 x, .string b] 36)).heap.size = wr.heap.size + 1 := by simp
      go_wp2_with fail
      generalize wr.alloc (.cells #[.int .i64 x, .string b] 36) = W6 at *
      have hF6 : FieldAt bF W6 := ⟨fun j hj => (hb6.cell (p := ⟨bF, j, none⟩) hbF).trans (hF5.num j hj), fun j hj => (hb6.cell (p := ⟨bF, 256 + j, none⟩) hbF).trans (hF5.dig j hj)⟩
      have hrA : KH.Reads W6 W6.heap.size 1 (some ⟨g4, 0, none⟩) (n + 1) ((zi (KH.zp (xsN l) (xsN l).length)).map (.int .i64)) := (KH.Reads.below hr5 hb6).more (by omega)
      clear hb
      refine (without_any c4 hrA rfl h1n (by omega) (KH.Dg.zp _) hx8 hF6 (by omega)).mono ?_; rintro e w7 ⟨g7, c7, rfl, ho7, hb7⟩
      have hg7 : W6.heap.size ≤ g7 := by
        obtain ⟨g', c', hv, ha, _⟩ := ho7.form h1n
        injection hv with h1; injection h1 with h1; injection h1 with h1
        rw [h1]; exact ha
      have hq7 : zi (KH.dv (KH.zp (xsN l) (xsN l).length) x) = zi (KH.qo (xsN l) k) := by unfold KH.qo; rw [HX.out]
      rw [hq7] at ho7
      clear hq7 hrA
      have hr7 := KH.Reads.of_own ho7
      have hs7 := hb7.size
      have hF7 := hF6.below hb7 (by omega)
      have hcx7 := (hb7.cell (p := ⟨wr.heap.size, 0, none⟩) (by show wr.heap.size < _; omega)).trans hcx
      have hcb7 := (hb7.cell (p := ⟨wr.heap.size, 1, none⟩) (by show wr.heap.size < _; omega)).trans hcb
      have hbb7 := hb6.trans (hb7.mono (by omega))
      have hB7 := KH.Blk.below hB6 hb7 (by omega)
      clear ho7 hb6 hb7 hcx hcb hF6 hB6
      have hq1 : KH.Dg (KH.qo (xsN l) k) := KH.Dg.qo k
      have hql : (KH.qo (xsN l) k).length = n := by rw [KH.qo_length, xsN_length, HL.out]
      have hEK : evalK (zi (KH.qo (xsN l) k)) (x : Int) = true := evalK_iff.2 ⟨by rw [zi_length, hql]; omega, allB_zi hq1, dgB_iff.2 (by omega)⟩
      have hEV : evalV (zi (KH.qo (xsN l) k)) (x : Int) = (KH.ev (KH.qo (xsN l) k) x : Nat) := by rw [evalV_eq hEK, nats_zi, Int.toNat_natCast]
      have HE := KH.hid (And.intro hEK hEV)
      have hne2 : KH.ev (KH.qo (xsN l) k) x ≠ 0 := by
        have := KH.qo_ne HD.out.1 HD.out.2 (i := k) (by rw [xsN_length, HL.out]; exact hlt)
        rwa [HX.out] at this
      have hso : Hid (KH.so (xsN l) k = KH.inv (KH.mul (KH.ev (KH.qo (xsN l) k) x) x)) := by unfold Hid KH.so; rw [HX.out]
      have hev := KH.ev_lt hq1 x
      have HQ := KH.hid (And.intro hq1 hql)
      clear hEK hEV hq1 hql
      go_wp2_with fail
      refine (eval_told c7 hr7 hnm (x : Int)).mono ?_; rintro e w8 ⟨rfl, hb8⟩
      rw [HE.out.1, HE.out.2]
      have hs8 := hb8.size
      have hr8 := KH.Reads.more (KH.Reads.below hr7 hb8) hs8
      have hF8 := hF7.below hb8 (by omega)
      have hcx8 := (hb8.cell (p := ⟨wr.heap.size, 0, none⟩) (by show wr.heap.size < _; omega)).trans hcx7
      have hcb8 := (hb8.cell (p := ⟨wr.heap.size, 1, none⟩) (by show wr.heap.size < _; omega)).trans hcb7
      have hbb8 := hbb7.trans (hb8.mono (by omega))
      have hB8 := KH.Blk.below hB7 hb8 (by omega)
      clear hr7 hF7 hcx7 hcb7 hbb7 hB7 hb8
      have hsc := KH.mul_lt (KH.ev (KH.qo (xsN l) k) x) x
      have hsc1 : 1 ≤ KH.mul (KH.ev (KH.qo (xsN l) k) x) x := by
        have : KH.mul (KH.ev (KH.qo (xsN l) k) x) x ≠ 0 := by rw [ne_eq, KH.mul_eq_zero]; omega
        omega
      generalize KH.ev (KH.qo (xsN l) k) x = ev0 at *
      go_wp2_with fail
      refine (mul_nat bF ev0 x _ hF8 hev hx8).mono ?_; rintro e w9 ⟨rfl, r9, rfl⟩
      generalize KH.mul ev0 x = sc0 at *
      have hF9 : FieldAt bF (w8.drewN r9) := hF8.drewN r9
      go_wp2_with fail
      refine (inv_nat bF sc0 _ hF9 hsc1 hsc).mono ?_; rintro e w9 ⟨rfl, r10, rfl⟩
      have hF9 : FieldAt bF ((w8.drewN r9).drewN r10) := hF9.drewN r10
      have hr9 : KH.Reads ((w8.drewN r9).drewN r10) w8.heap.size 1 (some ⟨g7, 0, none⟩) n ((zi (KH.qo (xsN l) k)).map (.int .i64)) := hr8
      have hcb9 : ((w8.drewN r9).drewN r10).cell? ⟨wr.heap.size, 1, none⟩ = some (.string b) := hcb8
      have hbb9 := below_drewN (below_drewN hbb8 r9) r10
      have hB9 : KH.Blk ((w8.drewN r9).drewN r10) gT 48 (bl (n * 32) (tF s l k 0)).toArray := hB8
      have hs9 : ((w8.drewN r9).drewN r10).heap.size = w8.heap.size := rfl
      rw [← hso.out]
      clear hF8 hr8 hcx8 hcb8 hbb8 hB8 hne2 hev hsc hsc1
      generalize hw9 : (w8.drewN r9).drewN r10 = w9 at *
      rw [← hs9] at hr9 hs8
      clear hs9 hw9
      go_wp2
      go_cut [17, 49] from 49 to 118 (fun s17 s49 wx => NewRow w9 wx s17 (bl 32 fun o => sb s o ^^^ sb b o) ∧ s49 = .int .i64 k)
      case first =>
        have hsa : ∀ a cap w, (Instr.arrayAt 48 (.slice a 32 cap)).run Tryd.prog w = .ok (.pointer a) w := fun a cap w => by simp [Instr.arrayAt, run_underlying Tryd.underlying48, go_sem]
        have hs32 : s.size = 32 := HS.out
        have hu := Tryd.underlying48
        have hi32 : (Tryd.prog.info? 48).map (·.size) = some (bl 32 (sb s)).length := by rw [bl_length]; exact line_info
        have hi33 : (Tryd.prog.info? 48).map (·.size) = some (bl 32 fun o => sb s o ^^^ sb b o).toArray.size := by rw [bl_size]; exact line_info
        have hsz33 : (bl 32 fun o => sb s o ^^^ sb b o).toArray.size = 32 := bl_size _ _
        have ho33 := bl_one (N := 32) (F := fun o => sb s o ^^^ sb b o)
        have hlt9 : wr.heap.size < w9.heap.size := by omega
        have hcv1 : (convert 9 62 (.string s)).run Tryd.prog w9.drew = .ok (.slice (some ⟨w9.heap.size, 0, none⟩) s.size (grownCap w9.drew s.size 0 5)) (Lib.bytesWorld w9.drew 5 s) :=
          Lib.run_convert_string_bytes w9.drew _ _ _ s Tryd.underlying9 Tryd.underlying62 Tryd.underlying5
        have hcv2 : (convert 9 62 (.string s)).run Tryd.prog (w9.alloc (.cells #[.int .u8 0, .int .u8 0, .int .u8 0, .int .u8 0, .int .u8 0, .int .u8 0, .int .u8 0, .int .u8 0, .int .u8 0, .int .u8 0, .int .u8 0, .int .u8 0, .int .u8 0, .int .u8 0, .int .u8 0, .int .u8 0, .int .u8 0, .int .u8 0, .int .u8 0, .int .u8 0, .int .u8 0, .int .u8 0, .int .u8 0, .int .u8 0, .int .u8 0, .int .u8 0, .int .u8 0, .int .u8 0, .int .u8 0, .int .u8 0, .int .u8 0, .int .u8 0] 48)).drew = .ok (.slice (some ⟨w9.heap.size + 1, 0, none⟩) s.size (grownCap (w9.alloc (.cells #[.int .u8 0, .int .u8 0, .int .u8 0, .int .u8 0, .int .u8 0, .int .u8 0, .int .u8 0, .int .u8 0, .int .u8 0, .int .u8 0, .int .u8 0, .int .u8 0, .int .u8 0, .int .u8 0, .int .u8 0, .int .u8 0, .int .u8 0, .int .u8 0, .int .u8 0, .int .u8 0, .int .u8 0, .int .u8 0, .int .u8 0, .int .u8 0, .int .u8 0, .int .u8 0, .int .u8 0, .int .u8 0, .int .u8 0, .int .u8 0, .int .u8 0, .int .u8 0] 48)).drew s.size 0 5)) (Lib.bytesWorld (w9.alloc (.cells #[.int .u8 0, .int .u8 0, .int .u8 0, .int .u8 0, .int .u8 0, .int .u8 0, .int .u8 0, .int .u8 0, .int .u8 0, .int .u8 0, .int .u8 0, .int .u8 0, .int .u8 0, .int .u8 0, .int .u8 0, .int .u8 0, .int .u8 0, .int .u8 0, .int .u8 0, .int .u8 0, .int .u8 0, .int .u8 0, .int .u8 0, .int .u8 0, .int .u8 0, .int .u8 0, .int .u8 0, .int .u8 0, .int .u8 0, .int .u8 0, .int .u8 0, .int .u8 0] 48)).drew 5 s) := by
          have := Lib.run_convert_string_bytes (P := Tryd.prog) (w9.alloc (.cells #[.int .u8 0, .int .u8 0, .int .u8 0, .int .u8 0, .int .u8 0, .int .u8 0, .int .u8 0, .int .u8 0, .int .u8 0, .int .u8 0, .int .u8 0, .int .u8 0, .int .u8 0, .int .u8 0, .int .u8 0, .int .u8 0, .int .u8 0, .int .u8 0, .int .u8 0, .int .u8 0, .int .u8 0, .int .u8 0, .int .u8 0, .int .u8 0, .int .u8 0, .int .u8 0, .int .u8 0, .int .u8 0, .int .u8 0, .int .u8 0, .int .u8 0, .int .u8 0] 48)).drew 9 62 5 s Tryd.underlying9 Tryd.underlying62 Tryd.underlying5
          simpa using this
        rw [hs32] at hcv1 hcv2
        have hR1 : (Lib.bytesWorld w9.drew 5 s).rangeAt w9.heap.size 0 (bl 32 (sb s)) := range_bytes w9.drew hs32
        have hR2 : (Lib.bytesWorld (w9.alloc (.cells #[.int .u8 0, .int .u8 0, .int .u8 0, .int .u8 0, .int .u8 0, .int .u8 0, .int .u8 0, .int .u8 0, .int .u8 0, .int .u8 0, .int .u8 0, .int .u8 0, .int .u8 0, .int .u8 0, .int .u8 0, .int .u8 0, .int .u8 0, .int .u8 0, .int .u8 0, .int .u8 0, .int .u8 0, .int .u8 0, .int .u8 0, .int .u8 0, .int .u8 0, .int .u8 0, .int .u8 0, .int .u8 0, .int .u8 0, .int .u8 0, .int .u8 0, .int .u8 0] 48)).drew 5 s).rangeAt (w9.heap.size + 1) 0 (bl 32 (sb s)) := by
          have := range_bytes (w9.alloc (.cells #[.int .u8 0, .int .u8 0, .int .u8 0, .int .u8 0, .int .u8 0, .int .u8 0, .int .u8 0, .int .u8 0, .int .u8 0, .int .u8 0, .int .u8 0, .int .u8 0, .int .u8 0, .int .u8 0, .int .u8 0, .int .u8 0, .int .u8 0, .int .u8 0, .int .u8 0, .int .u8 0, .int .u8 0, .int .u8 0, .int .u8 0, .int .u8 0, .int .u8 0, .int .u8 0, .int .u8 0, .int .u8 0, .int .u8 0, .int .u8 0, .int .u8 0, .int .u8 0] 48)).drew hs32
          simpa using this
        have hT2 : Hid ((Lib.bytesWorld (w9.alloc (.cells #[.int .u8 0, .int .u8 0, .int .u8 0, .int .u8 0, .int .u8 0, .int .u8 0, .int .u8 0, .int .u8 0, .int .u8 0, .int .u8 0, .int .u8 0, .int .u8 0, .int .u8 0, .int .u8 0, .int .u8 0, .int .u8 0, .int .u8 0, .int .u8 0, .int .u8 0, .int .u8 0, .int .u8 0, .int .u8 0, .int .u8 0, .int .u8 0, .int .u8 0, .int .u8 0, .int .u8 0, .int .u8 0, .int .u8 0, .int .u8 0, .int .u8 0, .int .u8 0] 48)).drew 5 s).there w9.heap.size 0 (bl 32 fun o => sb s o ^^^ sb b o).toArray.size ∧ w9.heap.size < (Lib.bytesWorld (w9.alloc (.cells #[.int .u8 0, .int .u8 0, .int .u8 0, .int .u8 0, .int .u8 0, .int .u8 0, .int .u8 0, .int .u8 0, .int .u8 0, .int .u8 0, .int .u8 0, .int .u8 0, .int .u8 0, .int .u8 0, .int .u8 0, .int .u8 0, .int .u8 0, .int .u8 0, .int .u8 0, .int .u8 0, .int .u8 0, .int .u8 0, .int .u8 0, .int .u8 0, .int .u8 0, .int .u8 0, .int .u8 0, .int .u8 0, .int .u8 0, .int .u8 0, .int .u8 0, .int .u8 0] 48)).drew 5 s).heap.size) := by
          have h1 := bytesWorld_below (w9.alloc (.cells #[.int .u8 0, .int .u8 0, .int .u8 0, .int .u8 0, .int .u8 0, .int .u8 0, .int .u8 0, .int .u8 0, .int .u8 0, .int .u8 0, .int .u8 0, .int .u8 0, .int .u8 0, .int .u8 0, .int .u8 0, .int .u8 0, .int .u8 0, .int .u8 0, .int .u8 0, .int .u8 0, .int .u8 0, .int .u8 0, .int .u8 0, .int .u8 0, .int .u8 0, .int .u8 0, .int .u8 0, .int .u8 0, .int .u8 0, .int .u8 0, .int .u8 0, .int .u8 0] 48)).drew 5 s
          have h2 : w9.heap.size < (w9.alloc (.cells #[.int .u8 0, .int .u8 0, .int .u8 0, .int .u8 0, .int .u8 0, .int .u8 0, .int .u8 0, .int .u8 0, .int .u8 0, .int .u8 0, .int .u8 0, .int .u8 0, .int .u8 0, .int .u8 0, .int .u8 0, .int .u8 0, .int .u8 0, .int .u8 0, .int .u8 0, .int .u8 0, .int .u8 0, .int .u8 0, .int .u8 0, .int .u8 0, .int .u8 0, .int .u8 0, .int .u8 0, .int .u8 0, .int .u8 0, .int .u8 0, .int .u8 0, .int .u8 0] 48)).drew.heap.size := by simp
          exact ⟨there_below h1 ((World.there_drew _ _ _ _).2 (there_new w9 hsz33)) h2, Nat.lt_of_lt_of_le h2 h1.size⟩
        have hW1 : Hid (Below w9.heap.size w9 (Lib.bytesWorld w9.drew 5 s) ∧ (Lib.bytesWorld w9.drew 5 s).heap.size = w9.heap.size + 1) :=
          ⟨(Below.refl w9.heap.size w9).drew.trans (bytesWorld_below w9.drew 5 s), Lib.bytesWorld_size w9.drew 5 s⟩
        have hW2 : Hid (Below w9.heap.size w9 (Lib.bytesWorld (w9.alloc (.cells #[.int .u8 0, .int .u8 0, .int .u8 0, .int .u8 0, .int .u8 0, .int .u8 0, .int .u8 0, .int .u8 0, .int .u8 0, .int .u8 0, .int .u8 0, .int .u8 0, .int .u8 0, .int .u8 0, .int .u8 0, .int .u8 0, .int .u8 0, .int .u8 0, .int .u8 0, .int .u8 0, .int .u8 0, .int .u8 0, .int .u8 0, .int .u8 0, .int .u8 0, .int .u8 0, .int .u8 0, .int .u8 0, .int .u8 0, .int .u8 0, .int .u8 0, .int .u8 0] 48)).drew 5 s) ∧ (Lib.bytesWorld (w9.alloc (.cells #[.int .u8 0, .int .u8 0, .int .u8 0, .int .u8 0, .int .u8 0, .int .u8 0, .int .u8 0, .int .u8 0, .int .u8 0, .int .u8 0, .int .u8 0, .int .u8 0, .int .u8 0, .int .u8 0, .int .u8 0, .int .u8 0, .int .u8 0, .int .u8 0, .int .u8 0, .int .u8 0, .int .u8 0, .int .u8 0, .int .u8 0, .int .u8 0, .int .u8 0, .int .u8 0, .int .u8 0, .int .u8 0, .int .u8 0, .int .u8 0, .int .u8 0, .int .u8 0] 48)).drew 5 s).heap.size = w9.heap.size + 2) :=
          ⟨(((Below.refl w9.heap.size w9).alloc (Nat.le_refl _) (.cells #[.int .u8 0, .int .u8 0, .int .u8 0, .int .u8 0, .int .u8 0, .int .u8 0, .int .u8 0, .int .u8 0, .int .u8 0, .int .u8 0, .int .u8 0, .int .u8 0, .int .u8 0, .int .u8 0, .int .u8 0, .int .u8 0, .int .u8 0, .int .u8 0, .int .u8 0, .int .u8 0, .int .u8 0, .int .u8 0, .int .u8 0, .int .u8 0, .int .u8 0, .int .u8 0, .int .u8 0, .int .u8 0, .int .u8 0, .int .u8 0, .int .u8 0, .int .u8 0] 48)).drew).trans ((bytesWorld_below (w9.alloc (.cells #[.int .u8 0, .int .u8 0, .int .u8 0, .int .u8 0, .int .u8 0, .int .u8 0, .int .u8 0, .int .u8 0, .int .u8 0, .int .u8 0, .int .u8 0, .int .u8 0, .int .u8 0, .int .u8 0, .int .u8 0, .int .u8 0, .int .u8 0, .int .u8 0, .int .u8 0, .int .u8 0, .int .u8 0, .int .u8 0, .int .u8 0, .int .u8 0, .int .u8 0, .int .u8 0, .int .u8 0, .int .u8 0, .int .u8 0, .int .u8 0, .int .u8 0, .int .u8 0] 48)).drew 5 s).mono (by simp)), by rw [Lib.bytesWorld_size]; simp⟩
        generalize Lib.bytesWorld w9.drew 5 s = B1 at *
        generalize Lib.bytesWorld (w9.alloc (.cells #[.int .u8 0, .int .u8 0, .int .u8 0, .int .u8 0, .int .u8 0, .int .u8 0, .int .u8 0, .int .u8 0, .int .u8 0, .int .u8 0, .int .u8 0, .int .u8 0, .int .u8 0, .int .u8 0, .int .u8 0, .int .u8 0, .int .u8 0, .int .u8 0, .int .u8 0, .int .u8 0, .int .u8 0, .int .u8 0, .int .u8 0, .int .u8 0, .int .u8 0, .int .u8 0, .int .u8 0, .int .u8 0, .int .u8 0, .int .u8 0, .int .u8 0, .int .u8 0] 48)).drew 5 s = B2 at *
        generalize grownCap w9.drew 32 0 5 = cp1 at *
        generalize grownCap (w9.alloc (.cells #[.int .u8 0, .int .u8 0, .int .u8 0, .int .u8 0, .int .u8 0, .int .u8 0, .int .u8 0, .int .u8 0, .int .u8 0, .int .u8 0, .int .u8 0, .int .u8 0, .int .u8 0, .int .u8 0, .int .u8 0, .int .u8 0, .int .u8 0, .int .u8 0, .int .u8 0, .int .u8 0, .int .u8 0, .int .u8 0, .int .u8 0, .int .u8 0, .int .u8 0, .int .u8 0, .int .u8 0, .int .u8 0, .int .u8 0, .int .u8 0, .int .u8 0, .int .u8 0] 48)).drew 32 0 5 = cp2 at *
        have kB1 : B1.cell? ⟨wr.heap.size, 1, none⟩ = some (.string b) := (hW1.out.1.cell (p := ⟨wr.heap.size, 1, none⟩) hlt9).trans hcb9
        have kB2 : B2.cell? ⟨wr.heap.size, 1, none⟩ = some (.string b) := (hW2.out.1.cell (p := ⟨wr.heap.size, 1, none⟩) hlt9).trans hcb9
        have lB1 : wr.heap.size < B1.heap.size := by rw [hW1.out.2]; omega
        have lB2 : wr.heap.size < B2.heap.size := Nat.lt_of_lt_of_le hlt9 hW2.out.1.size
        have lB3 : wr.heap.size < (B1.alloc (.cells #[.int .u8 0, .int .u8 0, .int .u8 0, .int .u8 0, .int .u8 0, .int .u8 0, .int .u8 0, .int .u8 0, .int .u8 0, .int .u8 0, .int .u8 0, .int .u8 0, .int .u8 0, .int .u8 0, .int .u8 0, .int .u8 0, .int .u8 0, .int .u8 0, .int .u8 0, .int .u8 0, .int .u8 0, .int .u8 0, .int .u8 0, .int .u8 0, .int .u8 0, .int .u8 0, .int .u8 0, .int .u8 0, .int .u8 0, .int .u8 0, .int .u8 0, .int .u8 0] 48)).heap.size := by simp; omega
        have hR3 : (B1.alloc (.cells #[.int .u8 0, .int .u8 0, .int .u8 0, .int .u8 0, .int .u8 0, .int .u8 0, .int .u8 0, .int .u8 0, .int .u8 0, .int .u8 0, .int .u8 0, .int .u8 0, .int .u8 0, .int .u8 0, .int .u8 0, .int .u8 0, .int .u8 0, .int .u8 0, .int .u8 0, .int .u8 0, .int .u8 0, .int .u8 0, .int .u8 0, .int .u8 0, .int .u8 0, .int .u8 0, .int .u8 0, .int .u8 0, .int .u8 0, .int .u8 0, .int .u8 0, .int .u8 0] 48)).rangeAt w9.heap.size 0 (bl 32 (sb s)) := World.rangeAt_alloc hR1 _
        have hT3 : Hid ((B1.alloc (.cells #[.int .u8 0, .int .u8 0, .int .u8 0, .int .u8 0, .int .u8 0, .int .u8 0, .int .u8 0, .int .u8 0, .int .u8 0, .int .u8 0, .int .u8 0, .int .u8 0, .int .u8 0, .int .u8 0, .int .u8 0, .int .u8 0, .int .u8 0, .int .u8 0, .int .u8 0, .int .u8 0, .int .u8 0, .int .u8 0, .int .u8 0, .int .u8 0, .int .u8 0, .int .u8 0, .int .u8 0, .int .u8 0, .int .u8 0, .int .u8 0, .int .u8 0, .int .u8 0] 48)).there B1.heap.size 0 (bl 32 fun o => sb s o ^^^ sb b o).toArray.size ∧ B1.heap.size < (B1.alloc (.cells #[.int .u8 0, .int .u8 0, .int .u8 0, .int .u8 0, .int .u8 0, .int .u8 0, .int .u8 0, .int .u8 0, .int .u8 0, .int .u8 0, .int .u8 0, .int .u8 0, .int .u8 0, .int .u8 0, .int .u8 0, .int .u8 0, .int .u8 0, .int .u8 0, .int .u8 0, .int .u8 0, .int .u8 0, .int .u8 0, .int .u8 0, .int .u8 0, .int .u8 0, .int .u8 0, .int .u8 0, .int .u8 0, .int .u8 0, .int .u8 0, .int .u8 0, .int .u8 0] 48)).heap.size) :=
          ⟨there_new B1 hsz33, by simp⟩
        have hnew := World.new_ne w9 ⟨wr.heap.size, 1, none⟩ hcb9
        have HPL : Hid (∀ W, Calls Tryd.prog 29 #[.agg (bl 32 (sb s)).toArray, .string b] W fun e w' => e = .returned (.agg (bl 32 fun o => sb s o ^^^ sb b o).toArray) ∧ Below W.heap.size W w') := fun W => plus_any (sb s) (fun o _ => sb_lt s o) b hb32 W
        have HCTX := KH.hid (And.intro hF9 (And.intro hr9 (And.intro hbb9 (And.intro hB9 (And.intro hs8 (And.intro hgT (And.intro hwz hz6)))))))
        have HCT2 := KH.hid (And.intro h5 (And.intro hr5 (And.intro hF5 (And.intro hB5 (And.intro hbF hs7)))))
        have HCT3 := KH.hid (And.intro hy0 (And.intro hy1 (And.intro hy2 hi1)))
        clear hF9 hr9 hbb9 hB9 hs8 hgT hwz hz6 h5 hr5 hF5 hB5 hbF hs7 hy0 hy1 hy2 hi1 hB hc1 hc2 hab hnm hse hne hx1 hx8
        obtain ⟨LR, hLR⟩ : ∃ L, L = bl 32 fun o => sb s o ^^^ sb b o := ⟨_, rfl⟩
        obtain ⟨LS, hLS⟩ : ∃ L, L = bl 32 (sb s) := ⟨_, rfl⟩
        rw [← hLR] at hi33 hsz33 ho33 hT2 hT3 HPL
        rw [← hLS] at hi32 hR1 hR2 hR3 HPL
        have HLS := KH.hid (And.intro hLS hLR)
        clear hLS hLR
        have HLT := KH.hid (And.intro lB1 (And.intro lB2 lB3))
        have HLT2 := KH.hid hlt9
        clear lB1 lB2 lB3 hlt9
        clear hs32
        refine wp_region_noPanic ?_
        refine wp_region_held_drew (S := fun w' => w'.cell? ⟨wr.heap.size, 1, none⟩ = some (.string b)) (by kernel_rfl) hcb9 (fun hHeld => ?_)
        refine wpAnyH_take (i := 0) (oi := ⟨_, _, _, _, _, _⟩) (v := ?_) rfl (by kernel_rfl) (by kernel_rfl) (by kernel_rfl) (fun _ _ _ h => h) (Or.inl ⟨by rfl, ?_⟩) (by assumption) ?_
        rotate_left
        · intro w hSw; (try dsimp only at hSw); go_simp; try with_reducible rfl
        try simp only [Act.put, List.setIfInBounds_toArray, List.set_cons_zero, List.set_cons_succ]
        refine wpAnyH_take (i := 4) (oi := ⟨_, _, _, _, _, _⟩) (v := ?_) rfl (by kernel_rfl) (by kernel_rfl) (by kernel_rfl) (fun _ _ _ h => h) (Or.inl ⟨by rfl, ?_⟩) (by assumption) ?_
        rotate_left
        · intro w hSw; (try dsimp only at hSw); go_simp; try with_reducible rfl
        try simp only [Act.put, List.setIfInBounds_toArray, List.set_cons_zero, List.set_cons_succ]
        refine wpAnyH_take (i := 5) (oi := ⟨_, _, _, _, _, _⟩) (v := ?_) rfl (by kernel_rfl) (by kernel_rfl) (by kernel_rfl) (fun _ _ _ h => h) (Or.inl ⟨by rfl, ?_⟩) (by assumption) ?_
        rotate_left
        · intro w hSw; (try dsimp only at hSw); go_simp; try with_reducible rfl
        try simp only [Act.put, List.setIfInBounds_toArray, List.set_cons_zero, List.set_cons_succ]
        refine wpAnyH_ready (rs := [1, 7]) (by kernel_rfl) (by simp) ?_
        refine AllReadyH.cons (o := ⟨_, _, _, _, _, _⟩) rfl (fun K hK => ?_) (AllReadyH.cons (o := ⟨_, _, _, _, _, _⟩) rfl (fun K hK => ?_) AllReadyH.nil)
        · go_simp
          refine hK.out _ _ kB1 (fun hHeld => ?_)
          clear hK K
          try simp only [Act.put, List.setIfInBounds_toArray, List.set_cons_zero, List.set_cons_succ]
          refine wpAnyH_mono (S' := fun w' => w'.cell? ⟨wr.heap.size, 1, none⟩ = some (.string b) ∧ w'.rangeAt w9.heap.size 0 LS) (fun _ h => h.1) _ _ _ _ ?_
          have hHeld2 : B1.cell? ⟨wr.heap.size, 1, none⟩ = some (.string b) ∧ B1.rangeAt w9.heap.size 0 LS := ⟨kB1, hR1⟩
          refine wpAnyH_take (i := 2) (oi := ⟨_, _, _, _, _, _⟩) (v := ?_) rfl (by kernel_rfl) (by kernel_rfl) (by kernel_rfl) (fun _ _ _ h => h) (Or.inl ⟨by rfl, ?_⟩) (by assumption) ?_
          rotate_left
          · intro w hSw; (try dsimp only at hSw); go_simp; try with_reducible rfl
          try simp only [Act.put, List.setIfInBounds_toArray, List.set_cons_zero, List.set_cons_succ]
          refine wpAnyH_take (i := 3) (oi := ⟨_, _, _, _, _, _⟩) (v := .agg LS.toArray) rfl (by kernel_rfl) (by kernel_rfl) (by kernel_rfl) (fun _ _ _ h => h) (yieldsIf_load_mid (by rfl) _ _ rfl _ _ rfl LS _ (fun _ h => h.2) hu rfl hi32) (by assumption) ?_
          try simp only [Act.put, List.setIfInBounds_toArray, List.set_cons_zero, List.set_cons_succ]
          refine wpAnyH_ready (rs := [6, 7]) (by kernel_rfl) (by simp) ?_
          refine AllReadyH.cons (o := ⟨_, _, _, _, _, _⟩) rfl (fun K hK => ?_) (AllReadyH.cons (o := ⟨_, _, _, _, _, _⟩) rfl (fun K hK => ?_) AllReadyH.nil)
          · go_simp
            go_at_call 29
            refine (HPL.out _).mono ?_; rintro e w10 ⟨rfl, hb10⟩
            have hz10 := hb10.size
            have hk10 := (hb10.cell (p := ⟨wr.heap.size, 1, none⟩) HLT.out.1).trans kB1
            have hr10 := range_below hb10 hR1 (by rw [hW1.out.2]; omega)
            refine hK.out _ _ ⟨hk10, hr10⟩ (fun hHeld => ?_)
            clear hK K
            try simp only [Act.put, List.setIfInBounds_toArray, List.set_cons_zero, List.set_cons_succ]
            refine wpAnyH_ready (rs := [7]) (by kernel_rfl) (by simp) ?_
            refine AllReadyH.cons (o := ⟨_, _, _, _, _, _⟩) rfl (fun K hK => ?_) AllReadyH.nil
            go_simp
            have hk11 := (World.cell?_alloc_lt w10 (.cells #[.int .u8 0, .int .u8 0, .int .u8 0, .int .u8 0, .int .u8 0, .int .u8 0, .int .u8 0, .int .u8 0, .int .u8 0, .int .u8 0, .int .u8 0, .int .u8 0, .int .u8 0, .int .u8 0, .int .u8 0, .int .u8 0, .int .u8 0, .int .u8 0, .int .u8 0, .int .u8 0, .int .u8 0, .int .u8 0, .int .u8 0, .int .u8 0, .int .u8 0, .int .u8 0, .int .u8 0, .int .u8 0, .int .u8 0, .int .u8 0, .int .u8 0, .int .u8 0] 48) ⟨wr.heap.size, 1, none⟩ (Nat.lt_of_lt_of_le HLT.out.1 hz10)).trans hk10
            refine hK.out _ _ ⟨hk11, World.rangeAt_alloc hr10 _⟩ (fun hHeld => ?_)
            clear hK K
            try simp only [Act.put, List.setIfInBounds_toArray, List.set_cons_zero, List.set_cons_succ]
            refine wpAnyH_ready (rs := [8]) (by kernel_rfl) (by simp) ?_
            refine AllReadyH.cons (o := ⟨_, _, _, _, _, _⟩) rfl (fun K hK => ?_) AllReadyH.nil
            rw [if_pos (by rfl)]
            refine wp_store_mid _ _ _ rfl _ _ LR.toArray rfl rfl (there_new w10 hsz33) hi33 (all_oneCell_toArray ho33) ?_
            simp only [Act.put]
            refine hK.out _ _ ⟨(cell_setCells_far (by show wr.heap.size ≠ _; have := HLT.out.1; omega) _ _ _).trans hk11, World.rangeAt_setCells_apart (World.rangeAt_alloc hr10 _) _ _ _ (.inl (by have := hW1.out.2; omega))⟩ (fun hHeld => ?_)
            clear hK K
            try simp only [Act.put, List.setIfInBounds_toArray, List.set_cons_zero, List.set_cons_succ]
            refine wpAnyH_done (by kernel_rfl) ?_ _
            refine noPanic_normal ?_
            go_wp2_with fail
            go_meet
            rw [← HLS.out.2]
            have hNR := newRow_set (g := w10.heap.size) (cs := LR) (Nat.le_trans (by rw [hW1.out.2]; omega) hz10) (by simp) ((hW1.out.1.trans (hb10.mono (by rw [hW1.out.2]; omega))).alloc (Nat.le_trans (by rw [hW1.out.2]; omega) hz10) (.cells #[.int .u8 0, .int .u8 0, .int .u8 0, .int .u8 0, .int .u8 0, .int .u8 0, .int .u8 0, .int .u8 0, .int .u8 0, .int .u8 0, .int .u8 0, .int .u8 0, .int .u8 0, .int .u8 0, .int .u8 0, .int .u8 0, .int .u8 0, .int .u8 0, .int .u8 0, .int .u8 0, .int .u8 0, .int .u8 0, .int .u8 0, .int .u8 0, .int .u8 0, .int .u8 0, .int .u8 0, .int .u8 0, .int .u8 0, .int .u8 0, .int .u8 0, .int .u8 0] 48)) (by rw [show LR.length = 32 from by simpa using hsz33]; exact there_new w10 rfl)
            first | exact ⟨hNR, rfl⟩ | exact hNR
          · go_simp
            have hk11 := (World.cell?_alloc_lt B1 (.cells #[.int .u8 0, .int .u8 0, .int .u8 0, .int .u8 0, .int .u8 0, .int .u8 0, .int .u8 0, .int .u8 0, .int .u8 0, .int .u8 0, .int .u8 0, .int .u8 0, .int .u8 0, .int .u8 0, .int .u8 0, .int .u8 0, .int .u8 0, .int .u8 0, .int .u8 0, .int .u8 0, .int .u8 0, .int .u8 0, .int .u8 0, .int .u8 0, .int .u8 0, .int .u8 0, .int .u8 0, .int .u8 0, .int .u8 0, .int .u8 0, .int .u8 0, .int .u8 0] 48) ⟨wr.heap.size, 1, none⟩ HLT.out.1).trans kB1
            refine hK.out _ _ ⟨hk11, hR3⟩ (fun hHeld => ?_)
            clear hK K
            try simp only [Act.put, List.setIfInBounds_toArray, List.set_cons_zero, List.set_cons_succ]
            refine wpAnyH_ready (rs := [6]) (by kernel_rfl) (by simp) ?_
            refine AllReadyH.cons (o := ⟨_, _, _, _, _, _⟩) rfl (fun K hK => ?_) AllReadyH.nil
            go_simp
            go_at_call 29
            refine (HPL.out _).mono ?_; rintro e w10 ⟨rfl, hb10⟩
            have hz10 := hb10.size
            have hk10 := (hb10.cell (p := ⟨wr.heap.size, 1, none⟩) HLT.out.2.2).trans hk11
            have hr10 := range_below hb10 hR3 (Nat.lt_of_lt_of_le (by rw [hW1.out.2]; omega) (Nat.le_of_lt hT3.out.2))
            have ht10 := there_below hb10 hT3.out.1 hT3.out.2
            refine hK.out _ _ ⟨hk10, hr10⟩ (fun hHeld => ?_)
            clear hK K
            try simp only [Act.put, List.setIfInBounds_toArray, List.set_cons_zero, List.set_cons_succ]
            refine wpAnyH_ready (rs := [8]) (by kernel_rfl) (by simp) ?_
            refine AllReadyH.cons (o := ⟨_, _, _, _, _, _⟩) rfl (fun K hK => ?_) AllReadyH.nil
            rw [if_pos (by rfl)]
            refine wp_store_mid _ _ _ rfl _ _ LR.toArray rfl rfl ht10 hi33 (all_oneCell_toArray ho33) ?_
            simp only [Act.put]
            refine hK.out _ _ ⟨(cell_setCells_far (by show wr.heap.size ≠ _; have := HLT.out.1; omega) _ _ _).trans hk10, World.rangeAt_setCells_apart hr10 _ _ _ (.inl (by have := hW1.out.2; omega))⟩ (fun hHeld => ?_)
            clear hK K
            try simp only [Act.put, List.setIfInBounds_toArray, List.set_cons_zero, List.set_cons_succ]
            refine wpAnyH_done (by kernel_rfl) ?_ _
            refine noPanic_normal ?_
            go_wp2_with fail
            go_meet
            rw [← HLS.out.2]
            have hNR := newRow_set (g := B1.heap.size) (cs := LR) (by rw [hW1.out.2]; omega) (Nat.lt_of_lt_of_le hT3.out.2 hz10) ((hW1.out.1.alloc (by rw [hW1.out.2]; omega) (.cells #[.int .u8 0, .int .u8 0, .int .u8 0, .int .u8 0, .int .u8 0, .int .u8 0, .int .u8 0, .int .u8 0, .int .u8 0, .int .u8 0, .int .u8 0, .int .u8 0, .int .u8 0, .int .u8 0, .int .u8 0, .int .u8 0, .int .u8 0, .int .u8 0, .int .u8 0, .int .u8 0, .int .u8 0, .int .u8 0, .int .u8 0, .int .u8 0, .int .u8 0, .int .u8 0, .int .u8 0, .int .u8 0, .int .u8 0, .int .u8 0, .int .u8 0, .int .u8 0] 48)).trans (hb10.mono (Nat.le_of_lt (Nat.lt_of_le_of_lt (by rw [hW1.out.2]; omega) hT3.out.2)))) (by rw [show LR.length = LR.toArray.size from by simp]; exact ht10)
            first | exact ⟨hNR, rfl⟩ | exact hNR
        · go_simp
          have hk9 : (w9.alloc (.cells #[.int .u8 0, .int .u8 0, .int .u8 0, .int .u8 0, .int .u8 0, .int .u8 0, .int .u8 0, .int .u8 0, .int .u8 0, .int .u8 0, .int .u8 0, .int .u8 0, .int .u8 0, .int .u8 0, .int .u8 0, .int .u8 0, .int .u8 0, .int .u8 0, .int .u8 0, .int .u8 0, .int .u8 0, .int .u8 0, .int .u8 0, .int .u8 0, .int .u8 0, .int .u8 0, .int .u8 0, .int .u8 0, .int .u8 0, .int .u8 0, .int .u8 0, .int .u8 0] 48)).drew.cell? ⟨wr.heap.size, 1, none⟩ = some (.string b) := (World.cell?_alloc_lt w9 (.cells #[.int .u8 0, .int .u8 0, .int .u8 0, .int .u8 0, .int .u8 0, .int .u8 0, .int .u8 0, .int .u8 0, .int .u8 0, .int .u8 0, .int .u8 0, .int .u8 0, .int .u8 0, .int .u8 0, .int .u8 0, .int .u8 0, .int .u8 0, .int .u8 0, .int .u8 0, .int .u8 0, .int .u8 0, .int .u8 0, .int .u8 0, .int .u8 0, .int .u8 0, .int .u8 0, .int .u8 0, .int .u8 0, .int .u8 0, .int .u8 0, .int .u8 0, .int .u8 0] 48) ⟨wr.heap.size, 1, none⟩ HLT2.out).trans hcb9
          refine hK.out _ _ hk9 (fun hHeld => ?_)
          clear hK K
          try simp only [Act.put, List.setIfInBounds_toArray, List.set_cons_zero, List.set_cons_succ]
          refine wpAnyH_ready (rs := [1]) (by kernel_rfl) (by simp) ?_
          refine AllReadyH.cons (o := ⟨_, _, _, _, _, _⟩) rfl (fun K hK => ?_) AllReadyH.nil
          go_simp
          refine hK.out _ _ kB2 (fun hHeld => ?_)
          clear hK K
          try simp only [Act.put, List.setIfInBounds_toArray, List.set_cons_zero, List.set_cons_succ]
          refine wpAnyH_mono (S' := fun w' => w'.cell? ⟨wr.heap.size, 1, none⟩ = some (.string b) ∧ w'.rangeAt (w9.heap.size + 1) 0 LS) (fun _ h => h.1) _ _ _ _ ?_
          have hHeld2 : B2.cell? ⟨wr.heap.size, 1, none⟩ = some (.string b) ∧ B2.rangeAt (w9.heap.size + 1) 0 LS := ⟨kB2, hR2⟩
          refine wpAnyH_take (i := 2) (oi := ⟨_, _, _, _, _, _⟩) (v := ?_) rfl (by kernel_rfl) (by kernel_rfl) (by kernel_rfl) (fun _ _ _ h => h) (Or.inl ⟨by rfl, ?_⟩) (by assumption) ?_
          rotate_left
          · intro w hSw; (try dsimp only at hSw); go_simp; try with_reducible rfl
          try simp only [Act.put, List.setIfInBounds_toArray, List.set_cons_zero, List.set_cons_succ]
          refine wpAnyH_take (i := 3) (oi := ⟨_, _, _, _, _, _⟩) (v := .agg LS.toArray) rfl (by kernel_rfl) (by kernel_rfl) (by kernel_rfl) (fun _ _ _ h => h) (yieldsIf_load_mid (by rfl) _ _ rfl _ _ rfl LS _ (fun _ h => h.2) hu rfl hi32) (by assumption) ?_
          try simp only [Act.put, List.setIfInBounds_toArray, List.set_cons_zero, List.set_cons_succ]
          refine wpAnyH_ready (rs := [6]) (by kernel_rfl) (by simp) ?_
          refine AllReadyH.cons (o := ⟨_, _, _, _, _, _⟩) rfl (fun K hK => ?_) AllReadyH.nil
          go_simp
          go_at_call 29
          refine (HPL.out _).mono ?_; rintro e w10 ⟨rfl, hb10⟩
          have hz10 := hb10.size
          have hk10 := (hb10.cell (p := ⟨wr.heap.size, 1, none⟩) HLT.out.2.1).trans kB2
          have hr10 := range_below hb10 hR2 (by rw [hW2.out.2]; omega)
          have ht10 := there_below hb10 hT2.out.1 hT2.out.2
          refine hK.out _ _ ⟨hk10, hr10⟩ (fun hHeld => ?_)
          clear hK K
          try simp only [Act.put, List.setIfInBounds_toArray, List.set_cons_zero, List.set_cons_succ]
          refine wpAnyH_ready (rs := [8]) (by kernel_rfl) (by simp) ?_
          refine AllReadyH.cons (o := ⟨_, _, _, _, _, _⟩) rfl (fun K hK => ?_) AllReadyH.nil
          rw [if_pos (by rfl)]
          refine wp_store_mid _ _ _ rfl _ _ LR.toArray rfl rfl ht10 hi33 (all_oneCell_toArray ho33) ?_
          simp only [Act.put]
          refine hK.out _ _ ⟨(cell_setCells_far (by show wr.heap.size ≠ _; have := HLT2.out; omega) _ _ _).trans hk10, World.rangeAt_setCells_apart hr10 _ _ _ (.inl (by omega))⟩ (fun hHeld => ?_)
          clear hK K
          try simp only [Act.put, List.setIfInBounds_toArray, List.set_cons_zero, List.set_cons_succ]
          refine wpAnyH_done (by kernel_rfl) ?_ _
          refine noPanic_normal ?_
          go_wp2_with fail
          go_meet
          rw [← HLS.out.2]
          have hNR := newRow_set (g := w9.heap.size) (cs := LR) (Nat.le_refl _) (Nat.lt_of_lt_of_le hT2.out.2 hz10) (hW2.out.1.trans (hb10.mono (Nat.le_of_lt hT2.out.2))) (by rw [show LR.length = LR.toArray.size from by simp]; exact ht10)
          first | exact ⟨hNR, rfl⟩ | exact hNR
      case rest =>
        obtain ⟨⟨g17, rfl, hR17, hg17, hg17', hbc⟩, rfl⟩ := hcut
        have hFc := hF9.below hbc (by omega)
        have hrc : KH.Reads wc w9.heap.size 1 (some ⟨g7, 0, none⟩) n ((zi (KH.qo (xsN l) k)).map (.int .i64)) := KH.Reads.below hr9 hbc
        have hBc := KH.Blk.below hB9 hbc (by omega)
        have hbbc := hbb9.trans (hbc.mono (by omega))
        have hzc := hbc.size
        have hgg : gT < g7 := by omega
        clear hF9 hr9 hB9 hbb9 hbc hcb9 hc1 hc2 hab hB
        have hso8 : KH.so (xsN l) k < 256 := KH.inv_lt _
        have HWG : Hid (∀ q, wgt l k q = KH.mul ((KH.qo (xsN l) k).getD q 0) (KH.so (xsN l) k)) := fun q => rfl
        generalize KH.so (xsN l) k = so0 at *
        generalize hw9s : w9.heap.size = z9 at *
        clear hw9s
        have HXL : Hid (k < l.length) := by unfold Hid; rw [HL.out]; exact hlt
        have hk1n : k + 1 ≤ n := hlt
        have hkn0 : (k : Int) < n := by omega
        have hd0 : decide (k < n) = true := by rw [decide_eq_true_iff]; exact hlt
        go_wp2
        go_loopw [88] (fun i wt => ∃ q : Nat, q ≤ n ∧ i = .int .i64 q ∧ KH.Blk wt gT 48 (bl (n * 32) (tF s l k q)).toArray ∧ Below gT w5 wt ∧ KH.Reads wt z9 1 (some ⟨g7, 0, none⟩) n ((zi (KH.qo (xsN l) k)).map (.int .i64)) ∧ wt.rangeAt g17 0 (bl 32 fun o => sb s o ^^^ sb b o) ∧ wc.heap.size ≤ wt.heap.size) (fun i _ => n - (intOf i).toNat)
        case atStart => exact ⟨0, Nat.zero_le _, rfl, hBc, hbbc, hrc, hR17, Nat.le_refl _⟩
        case round =>
          obtain ⟨q, hq, rfl, hB, hb, hrq, hRq, hsz⟩ := hrel
          clear hBc hbbc hrc hR17
          by_cases hql : q < n
          · obtain ⟨ad, z, he, hab, hx, hc⟩ := KH.Reads.int hrq hql
            injection he with he; subst he
            rw [zi_get (by rw [HQ.out.2]; exact hql)] at hx
            injection hx with hx; subst hx
            have hdg : (KH.qo (xsN l) k).getD q 0 < 256 := HQ.out.1.getD q
            have HWQ := KH.hid (HWG.out q)
            generalize (KH.qo (xsN l) k).getD q 0 = dq at *
            have hFt : FieldAt bF wr := ⟨fun j hj => (hb.cell (p := ⟨bF, j, none⟩) hbF).trans (hF5.num j hj), fun j hj => (hb.cell (p := ⟨bF, 256 + j, none⟩) hbF).trans (hF5.dig j hj)⟩
            have hcq : wr.cell? ⟨g7, q, none⟩ = some (.int .i64 dq) := by
              rw [show (⟨g7, q, none⟩ : Addr) = (⟨g7, 0, none⟩ : Addr).add q from by unfold Addr.add; split <;> simp_all]
              exact hc
            have HPART : Hid (∀ j, j < 32 → tpF s l (k + 1) q j = tpF s l k q j ^^^ KH.mul (wgt l k q) (sb s j ^^^ sb b j)) := fun j _ => tpF_step HX5.out (by have := HL.out; omega)
            have q0 : (0 : Int) ≤ (q : Int) := by omega
            have q1 : (q : Int) < (n : Int) := by omega
            clear hc
            go_wp2_with fail
            refine (mul_nat bF dq so0 _ hFt hdg hso8).mono ?_; rintro e w2 ⟨rfl, r, rfl⟩
            rw [← HWQ.out]
            have hwl : wgt l k q < 256 := by rw [HWQ.out]; exact KH.mul_lt _ _
            have hBu : KH.Blk (wr.drewN r) gT 48 (bl (n * 32) (tF s l k q)).toArray := hB
            have hbu := below_drewN hb r
            have hru : KH.Reads (wr.drewN r) z9 1 (some ⟨g7, 0, none⟩) n ((zi (KH.qo (xsN l) k)).map (.int .i64)) := hrq
            have hRu : (wr.drewN r).rangeAt g17 0 (bl 32 fun o => sb s o ^^^ sb b o) := hRq
            have hsu : wc.heap.size ≤ (wr.drewN r).heap.size := hsz
            clear hB hb hrq hRq hsz hFt hcq
            generalize wgt l k q = wq at *
            generalize wr.drewN r = wu at *
            have HI1 : Hid ((Tryd.prog.info? 48).map (·.size) = some (bl 32 fun o => sb s o ^^^ sb b o).length) := by unfold Hid; rw [bl_length]; exact line_info
            go_wp2_with ((with_reducible show wpList _ _ _ (⟨some 103, _, _, _, _, _⟩ :: _) _ _); refine wpList_load_mid (by rfl) 48 (.tmp 17) (by rfl) g17 0 (by rfl) (bl 32 fun o => sb s o ^^^ sb b o) _ hRu Tryd.underlying48 rfl HI1.out ?_)
            refine (text_any (fun o => sb s o ^^^ sb b o) _).mono ?_; rintro e w3 ⟨rfl, hb3⟩
            have hs3 := hb3.size
            have hF3 : FieldAt bF w3 := ⟨fun j hj => ((hbu.trans (hb3.mono (Nat.le_of_lt hBu.lt))).cell (p := ⟨bF, j, none⟩) hbF).trans (hF5.num j hj), fun j hj => ((hbu.trans (hb3.mono (Nat.le_of_lt hBu.lt))).cell (p := ⟨bF, 256 + j, none⟩) hbF).trans (hF5.dig j hj)⟩
            have HBY := KH.hid (bytes_told bF ((wq : Nat) : Int) (tx 32 fun o => sb s o ^^^ sb b o) w3 hF3 (by have := hBu.lt; omega) (by rw [tx_size]; unfold maxLen; omega))
            have HDG : Hid (dgB ((wq : Nat) : Int) = true) := dgB_iff.2 (by omega)
            rw [HDG.out] at HBY
            have HPS : Hid ((bytesV (wq : Int) (tx 32 fun o => sb s o ^^^ sb b o)).size = 32) := by unfold Hid; rw [bytes_size hwl, tx_size]
            have HSB : Hid (∀ j, j < 32 → tpF s l k q j ^^^ sb (bytesV ((wq : Nat) : Int) (tx 32 fun o => sb s o ^^^ sb b o)) j = tpF s l (k + 1) q j) := fun j hj => by
              rw [bytes_sb hwl (by rw [tx_size]; omega), tx_sb (fun o _ => KH.xor_lt (sb_lt _ _) (sb_lt _ _)) hj, HPART.out j hj]
            generalize bytesV (wq : Int) (tx 32 fun o => sb s o ^^^ sb b o) = part at *
            go_wp2_with fail
            refine HBY.out.mono ?_; rintro e w4 ⟨rfl, hb4⟩
            have hs4 := hb4.size
            have hBq := (hBu.below hb3 hBu.lt).below hb4 (Nat.lt_of_lt_of_le hBu.lt hs3)
            have hbq := (hbu.trans (hb3.mono (Nat.le_of_lt hBu.lt))).trans (hb4.mono (Nat.le_trans (Nat.le_of_lt hBu.lt) hs3))
            have hrq := (hru.below (hb3.mono (by omega))).below (hb4.mono (by omega))
            have hRq := range_below hb4 (range_below hb3 hRu (by omega)) (by omega)
            clear hF3 hb3 hb4 hBu hbu hru hRu
            have HI2 : Hid ((Tryd.prog.info? 48).map (·.size) = some (bl 32 fun j => tpF s l k q j).length) := by unfold Hid; rw [bl_length]; exact line_info
            have HRG : Hid (w4.rangeAt gT (q * 32) (bl 32 fun j => tpF s l k q j)) := blk_range_mid hBq (by omega) (fun j hj => tF_in hj)
            have qq : (q : Int) * 32 + 32 ≤ (n : Int) * 32 := by omega
            go_wp2_with ((with_reducible show wpList _ _ _ (⟨some 113, _, _, _, _, _⟩ :: _) _ _); refine wpList_load_mid (by rfl) 48 (.tmp 112) (by rfl) gT (q * 32) (by rfl) (bl 32 fun j => tpF s l k q j) _ HRG.out Tryd.underlying48 rfl HI2.out ?_)
            refine (plus_any (fun j => tpF s l k q j) (fun o _ => tpF_lt s l k q o) part HPS.out _).mono ?_; rintro e w5' ⟨rfl, hb5'⟩
            have hs5 := hb5'.size
            have hBv := hBq.below hb5' hBq.lt
            have hbv := hbq.trans (hb5'.mono (Nat.le_of_lt hBq.lt))
            have hrv := hrq.below (hb5'.mono (by omega))
            have hRv := range_below hb5' hRq (by omega)
            clear hBq hbq hrq hRq HRG hb5'
            have HI3 : Hid ((Tryd.prog.info? 48).map (·.size) = some (bl 32 fun o => tpF s l k q o ^^^ sb part o).toArray.size) := by unfold Hid; rw [bl_size]; exact line_info
            have HO3 := KH.hid (all_oneCell_toArray (bl_one (N := 32) (F := fun o => tpF s l k q o ^^^ sb part o)))
            have HTH : Hid (w5'.there gT (q * 32) (bl 32 fun o => tpF s l k q o ^^^ sb part o).toArray.size) := by unfold Hid; rw [bl_size]; exact blk_there_mid hBv (by omega)
            go_wp2_with ((with_reducible show wpList _ _ _ (⟨none, Op.store _ (Operand.tmp 116) (Operand.tmp 115), _, _, _, _⟩ :: _) _ _); refine wpList_store_mid (by rfl) 48 (.tmp 116) (.tmp 115) (by rfl) gT (q * 32) (bl 32 fun o => tpF s l k q o ^^^ sb part o).toArray (by rfl) (by rfl) HTH.out HI3.out HO3.out ?_)
            have HN : Hid (KH.Blk (w5'.setCells gT (q * 32) (bl 32 fun o => tpF s l k q o ^^^ sb part o)) gT 48 (bl (n * 32) (tF s l k (q + 1))).toArray) := by
              exact blk_tape_step hBv hql HSB.out
            have HNB := KH.hid (below_setCells (Nat.le_refl _) (bl 32 fun o => tpF s l k q o ^^^ sb part o) (q * 32) w5' hbv)
            have HNR : Hid (KH.Reads (w5'.setCells gT (q * 32) (bl 32 fun o => tpF s l k q o ^^^ sb part o)) z9 1 (some ⟨g7, 0, none⟩) n ((zi (KH.qo (xsN l) k)).map (.int .i64))) := reads_setCells hrv (by show g7 ≠ gT; omega) _ _
            have HNG : Hid ((w5'.setCells gT (q * 32) (bl 32 fun o => tpF s l k q o ^^^ sb part o)).rangeAt g17 0 (bl 32 fun o => sb s o ^^^ sb b o)) := World.rangeAt_setCells_apart hRv _ _ _ (.inl (by omega))
            have HNZ : Hid (wc.heap.size ≤ (w5'.setCells gT (q * 32) (bl 32 fun o => tpF s l k q o ^^^ sb part o)).heap.size) := by unfold Hid; rw [setCells_heap]; omega
            go_roundw
            case rel => exact ⟨q + 1, by omega, by go_num, HN.out, HNB.out, HNR.out, HNG.out, HNZ.out⟩
            case measure => simp [intOf]; omega
          · obtain rfl : q = n := by omega
            have HN : Hid (KH.Blk wr gT 48 (bl (q * 32) (tF s l (k + 1) 0)).toArray) := by
              exact blk_tape_next hB
            clear hB
            go_wp2
            refine ⟨⟨k + 1, hk1n, by go_num, HN.out, hb⟩, ?_⟩
            simp [intOf]; omega
    · obtain rfl : k = n := by omega
      have hBA := blk_tape_all hB HL.out
      clear hB
      obtain ⟨wo, hwo⟩ : ∃ wo : World, wo = wr := ⟨_, rfl⟩
      subst hwo
      go_wp2
      go_loopw [24, 121] (fun v i wt => ∃ i' : Nat, i' ≤ k ∧ i = .int .i64 i' ∧ wt.ownsRow wo.heap.size 5 1 v (i' * 32) (bl (i' * 32) (tapF s l)) ∧ Below wo.heap.size wo wt) (fun _ i _ => k - (intOf i).toNat)
      case atStart => exact ⟨0, Nat.zero_le _, rfl, World.ownsRow_nil _ _ _ _, Below.refl _ _⟩
      case round =>
        obtain ⟨i, hik, rfl, hown, hbo⟩ := hrel
        have hzo := hbo.size
        by_cases hil : i < k
        · have hBr := hBA.below hbo hgT
          obtain ⟨G, hG⟩ : ∃ G, G = fun j => tapF s l (i * 32 + j) := ⟨_, rfl⟩
          have HG := KH.hid hG
          clear hG
          have HRG : Hid (wr.rangeAt gT (i * 32) (bl 32 G)) := blk_range_mid hBr (by omega) (fun j _ => by rw [HG.out])
          have HI : Hid ((Tryd.prog.info? 48).map (·.size) = some (bl 32 G).length) := by unfold Hid; rw [bl_length]; exact line_info
          have HI2 : Hid ((Tryd.prog.info? 48).map (·.size) = some (bl 32 G).toArray.size) := by unfold Hid; rw [bl_size]; exact line_info
          have HO2 := KH.hid (all_oneCell_toArray (bl_one (N := 32) (F := G)))
          have HT2 : Hid ((wr.alloc (.cells #[.int .u8 0, .int .u8 0, .int .u8 0, .int .u8 0, .int .u8 0, .int .u8 0, .int .u8 0, .int .u8 0, .int .u8 0, .int .u8 0, .int .u8 0, .int .u8 0, .int .u8 0, .int .u8 0, .int .u8 0, .int .u8 0, .int .u8 0, .int .u8 0, .int .u8 0, .int .u8 0, .int .u8 0, .int .u8 0, .int .u8 0, .int .u8 0, .int .u8 0, .int .u8 0, .int .u8 0, .int .u8 0, .int .u8 0, .int .u8 0, .int .u8 0, .int .u8 0] 48)).there wr.heap.size 0 (bl 32 G).toArray.size) := there_new wr (bl_size _ _)
          have HNW0 : Hid ((bl 32 G).length = 32) := bl_length _ _
          have HNW : Hid (∀ j u, (bl 32 G)[j]? = some u → ((wr.alloc (.cells #[.int .u8 0, .int .u8 0, .int .u8 0, .int .u8 0, .int .u8 0, .int .u8 0, .int .u8 0, .int .u8 0, .int .u8 0, .int .u8 0, .int .u8 0, .int .u8 0, .int .u8 0, .int .u8 0, .int .u8 0, .int .u8 0, .int .u8 0, .int .u8 0, .int .u8 0, .int .u8 0, .int .u8 0, .int .u8 0, .int .u8 0, .int .u8 0, .int .u8 0, .int .u8 0, .int .u8 0, .int .u8 0, .int .u8 0, .int .u8 0, .int .u8 0, .int .u8 0] 48)).setCells wr.heap.size 0 (bl 32 G)).cell? ((⟨wr.heap.size, 0, none⟩ : Addr).add j) = some u) := fun j u hu => by
            rw [addr_at]
            have h := World.rangeAt_setCells_same (wr.alloc (.cells #[.int .u8 0, .int .u8 0, .int .u8 0, .int .u8 0, .int .u8 0, .int .u8 0, .int .u8 0, .int .u8 0, .int .u8 0, .int .u8 0, .int .u8 0, .int .u8 0, .int .u8 0, .int .u8 0, .int .u8 0, .int .u8 0, .int .u8 0, .int .u8 0, .int .u8 0, .int .u8 0, .int .u8 0, .int .u8 0, .int .u8 0, .int .u8 0, .int .u8 0, .int .u8 0, .int .u8 0, .int .u8 0, .int .u8 0, .int .u8 0, .int .u8 0, .int .u8 0] 48)) wr.heap.size 0 (bl 32 G) (by rw [bl_length]; exact there_new wr rfl) j u hu
            rw [Nat.zero_add] at h; exact h
          have hA1 := below_setCells (Nat.le_refl _) (bl 32 G) 0 _ ((Below.refl wr.heap.size wr).alloc (Nat.le_refl _) (.cells #[.int .u8 0, .int .u8 0, .int .u8 0, .int .u8 0, .int .u8 0, .int .u8 0, .int .u8 0, .int .u8 0, .int .u8 0, .int .u8 0, .int .u8 0, .int .u8 0, .int .u8 0, .int .u8 0, .int .u8 0, .int .u8 0, .int .u8 0, .int .u8 0, .int .u8 0, .int .u8 0, .int .u8 0, .int .u8 0, .int .u8 0, .int .u8 0, .int .u8 0, .int .u8 0, .int .u8 0, .int .u8 0, .int .u8 0, .int .u8 0, .int .u8 0, .int .u8 0] 48))
          have hz1 : ((wr.alloc (.cells #[.int .u8 0, .int .u8 0, .int .u8 0, .int .u8 0, .int .u8 0, .int .u8 0, .int .u8 0, .int .u8 0, .int .u8 0, .int .u8 0, .int .u8 0, .int .u8 0, .int .u8 0, .int .u8 0, .int .u8 0, .int .u8 0, .int .u8 0, .int .u8 0, .int .u8 0, .int .u8 0, .int .u8 0, .int .u8 0, .int .u8 0, .int .u8 0, .int .u8 0, .int .u8 0, .int .u8 0, .int .u8 0, .int .u8 0, .int .u8 0, .int .u8 0, .int .u8 0] 48)).setCells wr.heap.size 0 (bl 32 G)).heap.size = wr.heap.size + 1 := by rw [setCells_heap]; simp
          have hownA := KH.own_below hown hA1
          have hbA := hbo.trans (hA1.mono hzo)
          have HSN : Hid (bl ((i + 1) * 32) (tapF s l) = bl (i * 32) (tapF s l) ++ bl 32 G) := by unfold Hid; rw [bl_snoc32, HG.out]
          have HZ1 := KH.hid hz1
          have HIN := KH.hid (And.intro hi1 (And.intro hy0 (And.intro hy1 hy2)))
          clear hBr hown hbo hA1 hz1 hi1 hy0 hy1 hy2 hse hne h5 hr5 hF5 hB5 hb hBA
          go_wp2_with (first | ((with_reducible show wpList _ _ _ (⟨some 124, _, _, _, _, _⟩ :: _) _ _); refine wpList_load_mid (by rfl) 48 (.tmp 123) (by rfl) gT (i * 32) (by rfl) (bl 32 G) _ HRG.out Tryd.underlying48 rfl HI.out ?_) | ((with_reducible show wpList _ _ _ (⟨none, Op.store _ (Operand.tmp 26) (Operand.tmp 124), _, _, _, _⟩ :: _) _ _); refine wpList_store_mid (by rfl) 48 (.tmp 26) (.tmp 124) (by rfl) wr.heap.size 0 (bl 32 G).toArray (by rfl) (by rfl) HT2.out HI2.out HO2.out ?_) | (at_builtin; refine wpList_append_own _ rfl (.tmp 125) (.tmp 126) 62 rfl wo.heap.size 5 i2 _ 1 1 Tryd.underlying62 hi2 hx0 hx1 hx2 rfl (by omega) _ (i * 32) _ rfl hownA ⟨wr.heap.size, 0, none⟩ 32 _ (bl 32 G) rfl HNW0.out HNW.out bl_one ?d1 ?d2 ?d3 ?_))
          case d1 => unfold maxLen; omega
          case d2 => omega
          case d3 => rw [HZ1.out]; omega
          intro v1 w1' hown1 hgrow hnil
          have hb1 := hbA.grown hgrow (by rw [HZ1.out]; omega) (fun k hk => (hownA.lt k hk).1)
          clear hgrow hnil hownA hbA
          go_wp2
          go_roundw
          case rel =>
            refine ⟨i + 1, by omega, by go_num, ?_, hb1⟩
            have h := hown1
            rw [← HSN.out, show i * 32 + 32 = (i + 1) * 32 by omega] at h
            exact h
          case measure => simp [intOf]; omega
        · obtain rfl : i = k := by omega
          rw [bl_map] at hown
          have hback := conv_own hown
          have HTX : Hid (strOfNums ((List.range (i * 32)).map fun o => ((tapF s l o : Nat) : Int)) = tx (i * 32) (tapF s l)) := rfl
          rw [HTX.out] at hback
          have HB := KH.hid ((hB5.trans (hb.mono hwz)).trans (hbo.mono (by omega)))
          clear hown hb hbo hB5 h5 hr5 hF5 hBA hi1 hy0 hy1 hy2 hse hne
          go_wp2
          go_ret2
          exact ⟨rfl, HB.out⟩

theorem tape_told {n : Nat} {A : Option Addr} (c : Nat) {l : List (Int × ByteArray)} {w : World} (s : ByteArray) (h : ShIn w w.heap.size A n l) (hn : n ≤ maxLen) (hsz : ∀ p ∈ l, p.2.size ≤ maxLen) :
    Calls Tryd.prog 13 #[.string s, .slice A n c] w fun e w' => e = .returned (.tuple #[.string (tapeV s l), .int .i64 (tapeE s l)]) ∧ Below w.heap.size w w' := by
  cases hk : tapeK s l
  · exact tape_no c s h hn hsz hk
  · have hk' := hk
    unfold tapeK at hk'
    rw [Bool.and_eq_true, Bool.and_eq_true, decide_eq_true_iff, decide_eq_true_iff] at hk'
    obtain ⟨h1, h2, h3⟩ := hk'
    have hl := h.len
    have h255 := (rightS_iff.1 h2).2.1
    refine (tape_yes c s h h1 h2 (by omega)).mono fun e w' ⟨he, hw⟩ => ⟨?_, hw⟩
    rw [he]
    unfold tapeV tapeE
    rw [hk, if_pos h1, h2, decide_eq_true h3, ← hl]; rfl
end Go.Proofs.YtdeoibgedjbeiaaDoor
