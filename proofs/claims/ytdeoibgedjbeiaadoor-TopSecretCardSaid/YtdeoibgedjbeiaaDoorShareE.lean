/- share.At, share.Combine. -/
import Derived.Test.YtdeoibgedjbeiaaDoorShareD
namespace Go.Proofs.YtdeoibgedjbeiaaDoor
open Go.RowKit

theorem blk_setCells {g : Nat} {t : TypeId} : ∀ (vs : List Value) (o : Nat) (w : World) (cs : Array Value), KH.Blk w g t cs → o + vs.length ≤ cs.size →
    ∃ cs', KH.Blk (w.setCells g o vs) g t cs' ∧ cs'.size = cs.size ∧ ∀ i, cs'[i]? = if o ≤ i ∧ i < o + vs.length then vs[i - o]? else cs[i]?
  | [], o, w, cs, h, _ => ⟨cs, h, rfl, fun i => by rw [if_neg (by simp)]⟩
  | v :: r, o, w, cs, h, hl => by
    rw [List.length_cons] at hl
    rw [World.setCells]
    obtain ⟨cs', h1, h2, h3⟩ := blk_setCells r (o + 1) _ _ (h.set_ o v) (by simp; omega)
    refine ⟨cs', h1, by rw [h2]; simp, fun i => ?_⟩
    rw [h3 i, List.length_cons, Array.getElem?_setIfInBounds]
    by_cases e : i = o
    · subst e
      rw [if_neg (by omega), if_pos rfl, if_pos (by omega), if_pos (by omega), Nat.sub_self]; rfl
    · by_cases hi : o + 1 ≤ i ∧ i < o + 1 + r.length
      · rw [if_pos hi, if_pos (by omega), show i - o = (i - (o + 1)) + 1 by omega]; rfl
      · rw [if_neg hi, if_neg (fun h => e h.symm), if_neg (by omega)]
theorem blk_setCells_all {w : World} {g : Nat} {t : TypeId} {cs : Array Value} (h : KH.Blk w g t cs) (vs : List Value) (hl : vs.length = cs.size) : KH.Blk (w.setCells g 0 vs) g t vs.toArray := by
  obtain ⟨cs', h1, h2, h3⟩ := blk_setCells vs 0 w cs h (by omega)
  have : cs' = vs.toArray := by
    refine Array.ext_getElem? fun i => ?_
    rw [h3 i]
    have e : vs.toArray[i]? = vs[i]? := by simp
    rw [e]
    by_cases hi : i < vs.length
    · rw [if_pos (by omega), Nat.sub_zero]
    · rw [if_neg (by omega), Array.getElem?_eq_none (by omega), List.getElem?_eq_none (by omega)]
  rw [← this]; exact h1

/-- the places and the bytes of shares -/
def xsN (l : List (Int × ByteArray)) : List Nat := nats (l.map (·.1))
def ysN (l : List (Int × ByteArray)) (j : Nat) : List Nat := l.map fun p => sb p.2 j
/-- what is told at a place of k shares -/
def atF (l : List (Int × ByteArray)) (x k j : Nat) : Nat := KH.th (xsN l) (ysN l j) x k
theorem atF_lt (l : List (Int × ByteArray)) (x k j : Nat) : atF l x k j < 256 := KH.th_lt _ _ _ _
theorem xsN_length (l : List (Int × ByteArray)) : (xsN l).length = l.length := by unfold xsN; rw [nats_length, List.length_map]
theorem ysN_length (l : List (Int × ByteArray)) (j : Nat) : (ysN l j).length = l.length := by unfold ysN; rw [List.length_map]
theorem ysN_get {l : List (Int × ByteArray)} {k : Nat} {p : Int × ByteArray} (h : l[k]? = some p) (j : Nat) : (ysN l j).getD k 0 = sb p.2 j := by
  unfold ysN; rw [List.getD, List.getElem?_map, h]; rfl
theorem atF_step {l : List (Int × ByteArray)} {k : Nat} {p : Int × ByteArray} (h : l[k]? = some p) (x j : Nat) : atF l x (k + 1) j = atF l x k j ^^^ KH.mul (KH.wt (xsN l) k x l.length) (sb p.2 j) := by
  unfold atF
  show KH.th (xsN l) (ysN l j) x k ^^^ KH.mul ((ysN l j).getD k 0) (KH.wt (xsN l) k x (xsN l).length) = _
  rw [ysN_get h, xsN_length, KH.mul_comm]

theorem rightS_iff {l : List (Int × ByteArray)} {least : Int} : rightS l least = true ↔ 1 ≤ l.length ∧ l.length ≤ 255 ∧ (l.map (·.1)).Nodup ∧ ∀ p ∈ l, least ≤ p.1 ∧ p.1 ≤ 255 ∧ p.2.size = 32 := by
  unfold rightS okS
  simp only [Bool.and_eq_true, decide_eq_true_iff, List.all_eq_true]
  exact ⟨fun h => ⟨h.1.1, h.1.2.1, h.1.2.2, h.2⟩, fun h => ⟨⟨h.1, h.2.1, h.2.2.1⟩, h.2.2.2⟩⟩
theorem right_places {l : List (Int × ByteArray)} (h : rightS l 0 = true) : placesB (l.map (·.1)) = true := by
  obtain ⟨h1, h2, h3, h4⟩ := rightS_iff.1 h
  unfold placesB
  rw [Bool.and_eq_true, decide_eq_true_iff, List.length_map, allB_iff]
  refine ⟨⟨h1, h2, h3⟩, fun x hx => ?_⟩
  obtain ⟨p, hp, rfl⟩ := List.mem_map.1 hx
  exact ⟨(h4 p hp).1, (h4 p hp).2.1⟩

theorem bytes_sb {a : Nat} (ha : a < 256) {b : ByteArray} {o : Nat} (ho : o < b.size) : sb (bytesV (a : Int) b) o = KH.mul a (sb b o) := by
  have hd : dgB (a : Int) = true := dgB_iff.2 (by omega)
  unfold bytesV
  rw [hd, if_pos rfl, Int.toNat_natCast]
  have hm := mb_get a b o ho
  unfold sb at hm ⊢
  rw [strOfNums_data, List.getD, List.getElem?_map]
  rw [List.getD, List.getElem?_eq_getElem (by rw [mb_length]; exact ho)] at hm
  rw [List.getElem?_eq_getElem (by rw [mb_length]; exact ho)]
  have hol : o < (mb a b).length := by rw [mb_length]; exact ho
  show (UInt8.ofNat (((mb a b)[o]'hol).toNat)).toNat = _
  have hm' : (mb a b)[o]'hol = ((KH.mul a (b.data.toList.getD o 0).toNat : Nat) : Int) := hm
  rw [hm', Int.toNat_natCast, UInt8.toNat_ofNat']
  exact Nat.mod_eq_of_lt (KH.mul_lt _ _)
theorem bytes_size {a : Nat} (ha : a < 256) (b : ByteArray) : (bytesV (a : Int) b).size = b.size := by
  have hd : dgB (a : Int) = true := dgB_iff.2 (by omega)
  unfold bytesV
  rw [hd, if_pos rfl, strOfNums_size, mb_length]
theorem blk_range {w : World} {g N : Nat} {t : TypeId} {F : Nat → Nat} (h : KH.Blk w g t (bl N F).toArray) : w.rangeAt g 0 (bl N F) := fun j v hv => by
  rw [Nat.zero_add, h.cell j, List.getElem?_toArray]; exact hv
theorem blk_there {w : World} {g N : Nat} {t : TypeId} {F : Nat → Nat} (h : KH.Blk w g t (bl N F).toArray) : w.there g 0 N := fun j hj => by
  rw [Nat.zero_add]; exact ⟨by rw [h.cell j, List.getElem?_toArray, bl_get _ hj]; rfl, h.frozen j⟩

def atE (l : List (Int × ByteArray)) (x : Int) : Int := if rightS l 0 then if dgB x then 0 else 1 else 90
def atV (l : List (Int × ByteArray)) (x : Int) : ByteArray := if rightS l 0 && dgB x then tx 32 (atF l x.toNat l.length) else ⟨#[]⟩

theorem sat_no {n : Nat} {A : Option Addr} (c : Nat) {l : List (Int × ByteArray)} {w : World} (h : ShIn w w.heap.size A n l) (hn : n ≤ maxLen) (hsz : ∀ p ∈ l, p.2.size ≤ maxLen) (x : Int) (hk : (rightS l 0 && dgB x) = false) :
    Calls Tryd.prog 22 #[.slice A n c, .int .i64 x] w fun e w' => e = .returned (.tuple #[.string (atV l x), .int .i64 (atE l x)]) ∧ Below w.heap.size w w' := by
  have HV : Hid (atV l x = ⟨#[]⟩) := by unfold Hid atV; rw [hk]; rfl
  rw [HV.out]
  cases hr : rightS l 0
  · have HE : Hid (atE l x = 90) := by unfold Hid atE; rw [hr]; rfl
    rw [HE.out]
    clear hk
    go_enter Tryd.func22, Tryd.ntmps22
    go_wp2_with fail
    refine (sright_any _ h hn 0 (by omega) (by omega) hsz).mono ?_; rintro e w1 ⟨rfl, hb1⟩
    rw [hr]
    go_wp2
    go_ret2
    exact ⟨rfl, hb1⟩
  · rw [hr, Bool.true_and] at hk
    have HE : Hid (atE l x = 1) := by unfold Hid atE; rw [hr, hk]; rfl
    rw [HE.out]
    have HW : Hid (weightsK (l.map (·.1)) x = false) := by unfold Hid weightsK; rw [hk, Bool.and_false]
    have h255 : n ≤ 255 := by have := (rightS_iff.1 hr).2.1; have := h.len; omega
    clear hk
    go_enter Tryd.func22, Tryd.ntmps22
    go_wp2_with fail
    refine (sright_any _ h hn 0 (by omega) (by omega) hsz).mono ?_; rintro e w1 ⟨rfl, hb1⟩
    rw [hr]
    have hs1 := hb1.size
    have h1 : ShIn w1 w1.heap.size A n l := (KH.Reads.below h hb1).more hs1
    go_wp2_with fail
    refine (places_any _ h1 h255).mono ?_; rintro e w2 ⟨g, rfl, ho2, hb2⟩
    have hr2 := KH.Reads.of_own ho2
    have hs2 := hb2.size
    go_wp2_with fail
    refine (weights_told _ hr2 hn x).mono ?_; rintro e w3 ⟨A3, n3, c3, rfl, _, hb3, _⟩
    rw [HW.out]
    go_wp2
    go_ret2
    exact ⟨rfl, (hb1.trans (hb2.mono (by omega))).trans (hb3.mono (by omega))⟩

set_option maxHeartbeats 1000000 in
set_option maxRecDepth 100000 in
theorem sat_yes {n : Nat} {A : Option Addr} (c : Nat) {l : List (Int × ByteArray)} {w : World} (h : ShIn w w.heap.size A n l) (hn : n ≤ maxLen) (hsz : ∀ p ∈ l, p.2.size ≤ maxLen) (x : Nat) (hr : rightS l 0 = true) (hx : x < 256) :
    Calls Tryd.prog 22 #[.slice A n c, .int .i64 x] w fun e w' => e = .returned (.tuple #[.string (tx 32 (atF l x n)), .int .i64 0]) ∧ Below w.heap.size w w' := by
  have hl := h.len
  have HL := KH.hid hl
  have HR := KH.hid (rightS_iff.1 hr)
  have h255 : n ≤ 255 := by have := HR.out.2.1; omega
  have h1n : 1 ≤ n := by have := HR.out.1; omega
  have HW : Hid (weightsK (l.map (·.1)) x = true) := by unfold Hid weightsK; rw [right_places hr, dgB_iff.2 (by omega)]; rfl
  have HWV : Hid (weightsV (l.map (·.1)) x = wts (l.map (·.1)) x n n) := by unfold Hid weightsV; rw [HW.out, List.length_map, hl]; rfl
  clear hl
  go_enter Tryd.func22, Tryd.ntmps22
  go_wp2_with fail
  refine (sright_any _ h hn 0 (by omega) (by omega) hsz).mono ?_; rintro e w1 ⟨rfl, hb1⟩
  rw [hr]
  clear hr hsz
  have hs1 := hb1.size
  have h1 : ShIn w1 w1.heap.size A n l := (KH.Reads.below h hb1).more hs1
  go_wp2_with fail
  refine (places_any _ h1 h255).mono ?_; rintro e w2 ⟨g, rfl, ho2, hb2⟩
  have hr2 := KH.Reads.of_own ho2
  have hs2 := hb2.size
  go_wp2_with fail
  refine (weights_told _ hr2 hn x).mono ?_; rintro e w3 ⟨A3, n3, c3, rfl, ho3, hb3, hn3⟩
  rw [HW.out]
  rw [HWV.out] at ho3
  rw [HWV.out, wts_length] at hn3
  subst hn3
  obtain ⟨gw, cw, hv, hgw, hgw2⟩ := ho3.form h1n
  have hv' : A3 = some ⟨gw, 0, none⟩ := by injection hv
  subst hv'
  clear hv hr2 ho2
  have hs3 := hb3.size
  have hB3 := (hb1.trans (hb2.mono (by omega))).trans (hb3.mono (by omega))
  go_wp2_with fail
  refine (new_any _).mono ?_; rintro e w4 ⟨rfl, hF, hb4, hs4⟩
  go_wp2
  rw [zlit]
  have ho4 := own_under ho3 hb4 hgw2
  have hB4 := hB3.trans (hb4.mono (by omega))
  clear hb1 hb2 hb3 ho3 hB3 h1
  have hb5 := (Below.refl w4.heap.size w4).alloc (Nat.le_refl _) (.cells (bl 32 fun _ => 0).toArray 48)
  have hB5 := KH.Blk.new w4 48 (bl 32 fun _ => 0).toArray
  have ho5 := own_under ho4 hb5 (by omega)
  have hF5 := hF.below hb5 hs4
  have hW5 := hB4.trans (hb5.mono (by omega))
  have hr5 : ShIn (w4.alloc (.cells (bl 32 fun _ => 0).toArray 48)) w.heap.size A n l := KH.Reads.below h hW5
  clear hb4 ho4 hF hB4 hb5 h
  have hzw : w.heap.size ≤ w4.heap.size := by omega
  have hgw4 : gw < w4.heap.size := by omega
  clear hs1 hs2 hgw2 hgw
  generalize w4.alloc (.cells (bl 32 fun _ => 0).toArray 48) = W at *
  generalize w4.heap.size = g9 at *
  have hB5 : KH.Blk W g9 48 (bl 32 (atF l x 0)).toArray := hB5
  have HSUM : Hid (∀ p ∈ l, p.2.size = 32) := fun p hp => (HR.out.2.2.2 p hp).2.2
  go_loopw [29] (fun i wr => ∃ k : Nat, k ≤ n ∧ i = .int .i64 k ∧ KH.Blk wr g9 48 (bl 32 (atF l x k)).toArray ∧ Below g9 W wr) (fun i _ => n - (intOf i).toNat)
  case atStart => exact ⟨0, Nat.zero_le _, rfl, hB5, Below.refl _ _⟩
  case round =>
    obtain ⟨k, hk, rfl, hB, hb⟩ := hrel
    clear hB5
    have hg9 := hB.lt
    by_cases hlt : k < n
    · have hIn : ShIn wr w.heap.size A n l := KH.Reads.below hr5 (hb.mono hzw)
      obtain ⟨ad, X, b, rfl, hab, hx5, hc1, hc2⟩ := hIn.at_ hlt
      have HX := KH.hid hx5
      have hb32 : b.size = 32 := HSUM.out _ (List.mem_of_getElem? hx5)
      clear hIn hx5
      go_wp2
      have hb6 := hb.alloc (by omega) (.cells #[.int .i64 X, .string b] 36)
      have hB6 := hB.alloc (.cells #[.int .i64 X, .string b] 36)
      have hcb : (wr.alloc (.cells #[.int .i64 X, .string b] 36)).cell? ⟨wr.heap.size, 1, none⟩ = some (.string b) := by rw [World.cell?_alloc_at _ _ _ _ rfl]; rfl
      have hz6 : wr.heap.size < (wr.alloc (.cells #[.int .i64 X, .string b] 36)).heap.size := by simp
      generalize wr.alloc (.cells #[.int .i64 X, .string b] 36) = W6 at *
      have ho6 := own_under ho5 hb6 hgw4
      have hwt := KH.wt_lt (xsN l) k x n
      have hcw : W6.cell? ⟨gw, k, none⟩ = some (.int .i64 (KH.wt (xsN l) k x n : Nat)) := by
        rw [ho6.cellAt k (by omega), List.getElem?_map]
        have : (wts (l.map (·.1)) x n n)[k]? = some ((KH.wt (nats (l.map (·.1))) k x n : Nat) : Int) := by
          unfold wts; rw [List.getElem?_map, List.getElem?_range hlt]; show some (if k < n then _ else _) = _; rw [if_pos hlt]
        rw [this]; rfl
      have hF6 : FieldAt w3.heap.size W6.drew := ⟨fun j hj => (hb6.cell (p := ⟨w3.heap.size, j, none⟩) hs4).trans (hF5.num j hj), fun j hj => (hb6.cell (p := ⟨w3.heap.size, 256 + j, none⟩) hs4).trans (hF5.dig j hj)⟩
      have HBY := KH.hid (bytes_told w3.heap.size ((KH.wt (xsN l) k x n : Nat) : Int) b W6.drew hF6 (by show w3.heap.size < W6.heap.size; omega) (by unfold maxLen; omega))
      have HDG : Hid (dgB ((KH.wt (xsN l) k x n : Nat) : Int) = true) := dgB_iff.2 (by omega)
      have HSB : Hid (∀ o, o < 32 → atF l x k o ^^^ sb (bytesV ((KH.wt (xsN l) k x n : Nat) : Int) b) o = atF l x (k + 1) o) := fun o ho => by
        rw [bytes_sb hwt (by omega), atF_step HX.out, HL.out]
      have HPS : Hid ((bytesV ((KH.wt (xsN l) k x n : Nat) : Int) b).size = 32) := by unfold Hid; rw [bytes_size hwt]; exact hb32
      rw [HDG.out] at HBY
      generalize KH.wt (xsN l) k x n = wk at *
      generalize bytesV (wk : Int) b = part at *
      have H7 : Hid (∀ w7, Below W6.heap.size W6.drew w7 → w7.cell? ⟨gw, k, none⟩ = some (.int .i64 wk) ∧ w7.cell? ⟨wr.heap.size, 1, none⟩ = some (.string b) ∧ KH.Blk w7 g9 48 (bl 32 (atF l x k)).toArray ∧ Below g9 W w7) := fun w7 h7 =>
        ⟨(h7.cell (p := ⟨gw, k, none⟩) (by show gw < _; omega)).trans hcw, (h7.cell (p := ⟨wr.heap.size, 1, none⟩) hz6).trans hcb, KH.Blk.below (w := W6.drew) hB6 h7 (by omega), hb6.drew.trans (h7.mono (by omega))⟩
      have k0 : (0 : Int) ≤ (k : Int) := by omega
      have k1 : (k : Int) < (n : Int) := by omega
      clear hb6 hB6 ho6 hF6 hB hb hb32 HX hc1 hc2
      go_region_held3 (fun w' => w'.cell? ⟨gw, k, none⟩ = some (.int .i64 wk) ∧ w'.cell? ⟨wr.heap.size, 1, none⟩ = some (.string b)) (first | exact ⟨by assumption, by assumption⟩ | go_keep) (first | (go_at_call 30; refine HBY.out.mono ?_; rintro e w7 ⟨rfl, hb7⟩; have hk1 := (H7.out w7 hb7).1; have hk2 := (H7.out w7 hb7).2.1))
      obtain ⟨_, _, hB7, hW7⟩ := H7.out w7 hb7
      have HI : Hid ((Tryd.prog.info? 48).map (·.size) = some (bl 32 (atF l x k)).length) := by unfold Hid; rw [bl_length]; exact line_info
      have HI2 : Hid ((Tryd.prog.info? 48).map (·.size) = some (bl 32 fun o => atF l x k o ^^^ sb part o).toArray.size) := by unfold Hid; rw [bl_size]; exact line_info
      have HO2 := KH.hid (all_oneCell_toArray (bl_one (N := 32) (F := fun o => atF l x k o ^^^ sb part o)))
      have HRG := KH.hid (blk_range hB7)
      have H8 : Hid (∀ w8, Below w7.heap.size w7 w8 → w8.there g9 0 (bl 32 fun o => atF l x k o ^^^ sb part o).toArray.size ∧ KH.Blk w8 g9 48 (bl 32 (atF l x k)).toArray ∧ Below g9 W w8) := fun w8 h8 => by
        have h := hB7.below h8 hB7.lt
        exact ⟨by rw [bl_size]; exact blk_there h, h, hW7.trans (h8.mono (by have := hB7.lt; omega))⟩
      clear hB7 hW7 hk1 hk2 hcw hcb
      go_wp2_with (first | ((with_reducible show wpList _ _ _ (⟨some 45, _, _, _, _, _⟩ :: _) _ _); refine wpList_load_mid (by rfl) 48 (.tmp 9) (by rfl) g9 0 (by rfl) (bl 32 (atF l x k)) _ HRG.out Tryd.underlying48 rfl HI.out ?_) | (go_at_call 29; refine (plus_any (atF l x k) (fun o _ => atF_lt l x k o) part HPS.out _).mono ?_; rintro e w8 ⟨rfl, hb8⟩) | ((with_reducible show wpList _ _ _ (⟨none, Op.store _ (Operand.tmp 9) (Operand.tmp 47), _, _, _, _⟩ :: _) _ _); refine wpList_store_mid (by rfl) 48 (.tmp 9) (.tmp 47) (by rfl) g9 0 (bl 32 fun o => atF l x k o ^^^ sb part o).toArray (by rfl) (by rfl) (H8.out w8 hb8).1 HI2.out HO2.out ?_))
      have HN : Hid (KH.Blk (w8.setCells g9 0 (bl 32 fun o => atF l x k o ^^^ sb part o)) g9 48 (bl 32 (atF l x (k + 1))).toArray) := by
        have h := blk_setCells_all (H8.out w8 hb8).2.1 (bl 32 fun o => atF l x k o ^^^ sb part o) (by rw [bl_length, bl_size])
        rw [bl_congr HSB.out] at h ⊢
        exact h
      have HNB := KH.hid (below_setCells (Nat.le_refl _) (bl 32 fun o => atF l x k o ^^^ sb part o) 0 w8 (H8.out w8 hb8).2.2)
      go_roundw
      case rel => exact ⟨k + 1, by omega, by go_num, HN.out, HNB.out⟩
      case measure => simp [intOf]; omega
    · obtain rfl : k = n := by omega
      have HI : Hid ((Tryd.prog.info? 48).map (·.size) = some (bl 32 (atF l x k)).length) := by unfold Hid; rw [bl_length]; exact line_info
      have HRG := KH.hid (blk_range hB)
      have HB := KH.hid (hW5.trans (hb.mono hzw))
      clear hB hb
      go_wp2_with (first | ((with_reducible show wpList _ _ _ (⟨some 49, _, _, _, _, _⟩ :: _) _ _); refine wpList_load_mid (by rfl) 48 (.tmp 9) (by rfl) g9 0 (by rfl) (bl 32 (atF l x k)) _ HRG.out Tryd.underlying48 rfl HI.out ?_) | (go_at_call 17; refine (text_any _ _).mono ?_; rintro e w8 ⟨rfl, hb8⟩))
      go_ret2
      exact ⟨rfl, HB.out.trans (hb8.mono HB.out.size)⟩

theorem at_told {n : Nat} {A : Option Addr} (c : Nat) {l : List (Int × ByteArray)} {w : World} (h : ShIn w w.heap.size A n l) (hn : n ≤ maxLen) (hsz : ∀ p ∈ l, p.2.size ≤ maxLen) (x : Int) :
    Calls Tryd.prog 22 #[.slice A n c, .int .i64 x] w fun e w' => e = .returned (.tuple #[.string (atV l x), .int .i64 (atE l x)]) ∧ Below w.heap.size w w' := by
  cases hk : rightS l 0 && dgB x
  · exact sat_no c h hn hsz x hk
  · have hk' := hk
    rw [Bool.and_eq_true] at hk'
    have hx := dgB_iff.1 hk'.2
    obtain ⟨y, rfl⟩ := Int.eq_ofNat_of_zero_le hx.1
    refine (sat_yes c h hn hsz y hk'.1 (by omega)).mono fun e w' ⟨he, hw⟩ => ⟨?_, hw⟩
    rw [he]
    unfold atV atE
    rw [hk, hk'.1, hk'.2, h.len]; rfl

def combK (l : List (Int × ByteArray)) : Bool := rightS l 1
def combV (l : List (Int × ByteArray)) : ByteArray := if combK l then tx 32 (atF l 0 l.length) else ⟨#[]⟩
def combE (l : List (Int × ByteArray)) : Int := if combK l then 0 else 90
theorem right_one {l : List (Int × ByteArray)} (h : rightS l 1 = true) : rightS l 0 = true := by
  obtain ⟨h1, h2, h3, h4⟩ := rightS_iff.1 h
  exact rightS_iff.2 ⟨h1, h2, h3, fun p hp => ⟨by have := (h4 p hp).1; omega, (h4 p hp).2⟩⟩

theorem combine_told {n : Nat} {A : Option Addr} (c : Nat) {l : List (Int × ByteArray)} {w : World} (h : ShIn w w.heap.size A n l) (hn : n ≤ maxLen) (hsz : ∀ p ∈ l, p.2.size ≤ maxLen) :
    Calls Tryd.prog 11 #[.slice A n c] w fun e w' => e = .returned (.tuple #[.string (combV l), .int .i64 (combE l)]) ∧ Below w.heap.size w w' := by
  cases hk : rightS l 1
  · have HV : Hid (combV l = ⟨#[]⟩ ∧ combE l = 90) := by unfold Hid combV combE combK; rw [hk]; exact ⟨rfl, rfl⟩
    rw [HV.out.1, HV.out.2]
    go_enter Tryd.func11, Tryd.ntmps11
    go_wp2_with fail
    refine (sright_any _ h hn 1 (by omega) (by omega) hsz).mono ?_; rintro e w1 ⟨rfl, hb1⟩
    rw [hk]
    go_wp2
    go_ret2
    exact ⟨rfl, hb1⟩
  · have HV : Hid (combV l = atV l 0 ∧ combE l = atE l 0) := by
      unfold Hid combV combE combK atV atE
      rw [hk, right_one hk]; exact ⟨rfl, rfl⟩
    rw [HV.out.1, HV.out.2]
    go_enter Tryd.func11, Tryd.ntmps11
    go_wp2_with fail
    refine (sright_any _ h hn 1 (by omega) (by omega) hsz).mono ?_; rintro e w1 ⟨rfl, hb1⟩
    rw [hk]
    have h1 : ShIn w1 w1.heap.size A n l := (KH.Reads.below h hb1).more hb1.size
    go_wp2_with fail
    refine (at_told _ h1 hn hsz 0).mono ?_; rintro e w2 ⟨rfl, hb2⟩
    go_wp2
    go_ret2
    exact ⟨rfl, hb1.trans (hb2.mono hb1.size)⟩
end Go.Proofs.YtdeoibgedjbeiaaDoor
