/- The walks of the document's places and Weights. -/
import Derived.Test.YtdeoibgedjbeiaaRefK
import Derived.Test.YtdeoibgedjbeiaaTapeA
namespace Go.Proofs.Ytdeoibgedjbeiaa
open Go.RowKit

theorem rsum_nat (x y : Nat) (w : World) (hx : x < 256) (hy : y < 256) :
    Calls Try.prog 57 #[.int .i64 x, .int .i64 y] w fun e w' => e = .returned (.int .i64 (x ^^^ y : Nat)) ∧ w = w' := by
  refine (sum_any x y w (by omega) (by omega) (by omega) (by omega)).mono fun e w' ⟨he, hw⟩ => ⟨?_, hw⟩
  rw [he, Int.toNat_natCast, Int.toNat_natCast]
theorem rtimes_nat (x y : Nat) (w : World) (hx : x < 256) (hy : y < 256) :
    Calls Try.prog 58 #[.int .i64 x, .int .i64 y] w fun e w' => e = .returned (.int .i64 (KH.mul x y : Nat)) ∧ w = w' := by
  refine (times_any x y w (by omega) (by omega) (by omega) (by omega)).mono fun e w' ⟨he, hw⟩ => ⟨?_, hw⟩
  rw [he, Int.toNat_natCast, Int.toNat_natCast]
theorem rinv_nat (x : Nat) (w : World) (h1 : 1 ≤ x) (hx : x < 256) :
    Calls Try.prog 25 #[.int .i64 x] w fun e w' => e = .returned (.tuple #[.int .i64 (KH.inv x : Nat), .bool true]) ∧ w = w' := by
  refine (rInv_in x w (by omega) (by omega)).mono fun e w' ⟨he, hw⟩ => ⟨?_, hw⟩
  rw [he, Int.toNat_natCast]
theorem rdiv_nat (x y : Nat) (w : World) (hx : x < 256) (h1 : 1 ≤ y) (hy : y < 256) :
    Calls Try.prog 27 #[.int .i64 x, .int .i64 y] w fun e w' => e = .returned (.tuple #[.int .i64 (KH.mul x (KH.inv y) : Nat), .bool true]) ∧ w = w' := by
  refine (rDiv_in x y w (by omega) (by omega) (by omega) (by omega)).mono fun e w' ⟨he, hw⟩ => ⟨?_, hw⟩
  rw [he, Int.toNat_natCast, Int.toNat_natCast]

/-- the places of the first k shares -/
def xsR (l : List (Int × ByteArray)) (k : Nat) : List Value := ((l.take k).map (·.1)).map (.int .i64)
theorem xsR_step {l : List (Int × ByteArray)} {k : Nat} {x : Int} {b : ByteArray} (h : l[k]? = some (x, b)) : xsR l (k + 1) = xsR l k ++ [.int .i64 x] := by
  unfold xsR
  rw [List.take_add_one, h, List.map_append, List.map_append]; rfl
theorem xsR_all {l : List (Int × ByteArray)} {n : Nat} (h : l.length = n) : xsR l n = (l.map (·.1)).map (.int .i64) := by
  unfold xsR; rw [List.take_of_length_le (by omega)]
set_option maxRecDepth 100000 in
theorem rcplaces_any {n : Nat} {A : Option Addr} (c : Nat) {l : List (Int × ByteArray)} {w : World} (h : ShIn w w.heap.size A n l) (hn : n ≤ 300) :
    Calls Try.prog 80 #[.slice A n c] w fun e w' => ∃ A' c', e = .returned (.slice A' n c') ∧ w'.ownsRow w.heap.size 3 1 (.slice A' n c') n ((l.map (·.1)).map (.int .i64)) ∧ Below w.heap.size w w' := by
  obtain ⟨i0, hi, hz0, hz1, hz2⟩ := info_parts int_info
  have hl := h.len
  have HL := KH.hid hl; clear hl
  go_enter Try.func80, Try.ntmps80
  go_wp2
  go_loopw [3, 4] (fun v i wr => ∃ k : Nat, k ≤ n ∧ i = .int .i64 k ∧ wr.ownsRow w.heap.size 3 1 v k (xsR l k) ∧ Below w.heap.size w wr) (fun _ i _ => n - (intOf i).toNat)
  case atStart => exact ⟨0, Nat.zero_le _, rfl, World.ownsRow_nil _ _ _ _, Below.refl _ _⟩
  case round =>
    obtain ⟨k, hk, rfl, hown, hb⟩ := hrel
    have hsz := hb.size
    by_cases hlt : k < n
    · obtain ⟨ad, x, b, rfl, _, hx, hc1, hc2⟩ := ShIn.at_ (show ShIn wr w.heap.size A n l from KH.Reads.below h hb) hlt
      have HS := KH.hid (xsR_step hx)
      clear hc2 hx
      go_wp2_with (at_builtin; refine KH.wpList_append_one rfl (.tmp 11) (.tmp 17) 34 rfl w.heap.size 3 i0 _ 8 Try.underlying34 hi hz0 hz1 hz2 rfl _ k _ rfl (hown.alloc _) wr.heap.size 1 (.int .i64 x) rfl ?c1 rfl ?c3 ?c4 ?c5 ?_)
      first | (case c1 => simp) | skip
      case c3 => unfold maxLen; omega
      case c4 => omega
      case c5 => first | omega | (simp; omega)
      intro v1 w1' hown1 hb1
      have hb2 := (hb.alloc hsz (.cells #[.int .i64 x] 3)).trans hb1
      clear hown hb
      go_wp2
      go_roundw
      case rel => exact ⟨k + 1, by omega, by go_num, by rw [HS.out]; exact hown1, hb2⟩
      case measure => simp [intOf]; omega
    · obtain rfl : k = n := by omega
      rw [xsR_all HL.out] at hown
      obtain ⟨A', c', rfl⟩ := KH.own_form hown
      go_wp2
      go_ret
      exact ⟨_, _, rfl, hown, hb⟩

/-- a row of digits -/
def bz (N : Nat) (F : Nat → Nat) : List Value := (List.range N).map fun o => .int .i64 (F o : Nat)
theorem bz_length (N : Nat) (F : Nat → Nat) : (bz N F).length = N := by simp [bz]
theorem bz_get {N o : Nat} (F : Nat → Nat) (h : o < N) : (bz N F)[o]? = some (.int .i64 (F o : Nat)) := by
  unfold bz; rw [List.getElem?_map, List.getElem?_range h]; rfl
theorem bz_congr {N : Nat} {F G : Nat → Nat} (h : ∀ o, o < N → F o = G o) : bz N F = bz N G :=
  List.map_congr_left fun o ho => by rw [h o (List.mem_range.1 ho)]
theorem bz_set {N o v : Nat} (F : Nat → Nat) : (bz N F).set o (.int .i64 (v : Nat)) = bz N fun p => if p = o then v else F p := by
  refine List.ext_getElem (by simp [bz]) fun j h1 h2 => ?_
  simp only [bz, List.getElem_set, List.getElem_map, List.getElem_range]
  by_cases e : o = j
  · subst e; rw [if_pos rfl, if_pos rfl]
  · rw [if_neg e, if_neg (fun h => e h.symm)]
theorem bz_snoc (k : Nat) (F : Nat → Nat) : bz (k + 1) F = bz k F ++ [.int .i64 (F k : Nat)] := by
  unfold bz; rw [List.range_succ, List.map_append]; rfl
theorem bz_zi (L : List Nat) : (zi L).map (Value.int .i64) = bz L.length fun o => L.getD o 0 := by
  refine List.ext_getElem (by simp [bz, zi]) fun j h1 h2 => ?_
  have hj : j < L.length := by simpa [bz] using h2
  simp only [bz, zi, List.getElem_map, List.getElem_range]
  rw [List.getD, List.getElem?_eq_getElem hj]; rfl
theorem bz_wts (l : List Int) (x n : Nat) : (wts l x n n).map (Value.int .i64) = bz n fun j => KH.wt (nats l) j x n := by
  unfold wts bz
  rw [List.map_map]
  refine List.map_congr_left fun j hj => ?_
  show Value.int .i64 (if j < n then _ else _) = _
  rw [if_pos (List.mem_range.1 hj)]

set_option maxRecDepth 100000 in
theorem rweights_no {n : Nat} {A : Option Addr} (c : Nat) {l : List Int} {w : World} (h : KH.Reads w w.heap.size 1 A n (l.map (.int .i64))) (hn : n ≤ maxLen) (x : Int) (hk : weightsK l x = false) :
    Calls Try.prog 79 #[.slice A n c, .int .i64 x] w (WeightsPost w l x) := by
  have hV : weightsV l x = [] := by unfold weightsV; rw [hk]; rfl
  have HV := KH.hid (And.intro hk hV)
  clear hV
  cases hr : placesB l
  · clear hk
    go_enter Try.func79, Try.ntmps79
    go_wp2_with fail
    refine (rPlaces_any _ h hn).mono ?_; rintro e w1 ⟨rfl, q, rfl⟩
    rw [hr]
    go_wp2
    go_ret2
    exact ⟨_, _, _, by rw [HV.out.1]; rfl, by rw [HV.out.2]; exact World.ownsRow_nil _ _ _ _, below_drewN (Below.refl _ _) q, by rw [HV.out.2]; rfl⟩
  · have hx : x < 0 ∨ 255 < x := by
      unfold weightsK at hk
      rw [hr, Bool.true_and] at hk
      unfold dgB at hk; rw [decide_eq_false_iff_not] at hk; omega
    clear hk
    go_enter Try.func79, Try.ntmps79
    go_wp2_with fail
    refine (rPlaces_any _ h hn).mono ?_; rintro e w1 ⟨rfl, q, rfl⟩
    rw [hr]
    go_wp2_with fail
    refine (rDigit_out _ _ hx).mono ?_; rintro e w' ⟨rfl, rfl⟩
    go_wp2
    go_ret2
    exact ⟨_, _, _, by rw [HV.out.1]; rfl, by rw [HV.out.2]; exact World.ownsRow_nil _ _ _ _, below_drewN (Below.refl _ _) q, by rw [HV.out.2]; rfl⟩

set_option maxHeartbeats 1000000 in
set_option maxRecDepth 100000 in
theorem rweights_yes {n : Nat} {A : Option Addr} (c : Nat) {l : List Int} {w : World} (h : KH.Reads w w.heap.size 1 A n (l.map (.int .i64))) (x : Int) (hk : weightsK l x = true) :
    Calls Try.prog 79 #[.slice A n c, .int .i64 x] w (WeightsPost w l x) := by
  obtain ⟨i0, hi, hz0, hz1, hz2⟩ := info_parts int_info
  have hl : l.length = n := by have := h.1; simpa using this
  have HK : Hid (weightsK l x = true ∧ weightsV l x = wts l x.toNat n n) := ⟨hk, by unfold weightsV; rw [hk, hl]; rfl⟩
  unfold weightsK at hk
  rw [Bool.and_eq_true] at hk
  obtain ⟨hr, hx⟩ := hk
  have hx' : 0 ≤ x ∧ x ≤ 255 := by unfold dgB at hx; simpa using hx
  have hr' := hr
  unfold placesB at hr'
  rw [Bool.and_eq_true, decide_eq_true_iff] at hr'
  obtain ⟨⟨hp1, hp2, hp3⟩, hall⟩ := hr'
  have HP := KH.hid (And.intro hall hp3)
  have hn1 : 1 ≤ n := by omega
  have hn255 : n ≤ 255 := by omega
  have HL := KH.hid hl
  clear hx hl hp1 hp2 hp3 hall
  obtain ⟨y, rfl⟩ := Int.eq_ofNat_of_zero_le hx'.1
  rw [Int.toNat_natCast] at HK
  have hy : y < 256 := by omega
  clear hx'
  go_enter Try.func79, Try.ntmps79
  go_wp2_with fail
  refine (rPlaces_any _ h (by unfold maxLen; omega)).mono ?_; rintro e w1 ⟨rfl, q, rfl⟩
  rw [hr]
  clear hr
  go_wp2_with fail
  refine (rDigit_in _ _ (by omega) (by omega)).mono ?_; rintro e w' ⟨rfl, rfl⟩
  have hb0 := below_drewN (Below.refl w.heap.size w) q
  go_wp2
  go_loopw [6, 7] (fun v i wr => ∃ k : Nat, k ≤ n ∧ i = .int .i64 k ∧ wr.ownsRow w.heap.size 3 1 v k (bz k fun j => KH.wt (nats l) j y n) ∧ Below w.heap.size w wr) (fun _ i _ => n - (intOf i).toNat)
  case atStart => exact ⟨0, Nat.zero_le _, rfl, World.ownsRow_nil _ _ _ _, hb0⟩
  case round =>
    obtain ⟨i, hin, rfl, hown, hb⟩ := hrel
    clear hb0
    have hsz := hb.size
    by_cases hil : i < n
    · have hrr := h.below hb
      obtain ⟨ad, z, rfl, _, hx, hc⟩ := hrr.int hil
      have hz := nats_get HP.out.1 hx
      have ho8 : (nats l).getD i 0 < 256 := (dg_nats HP.out.1).getD i
      subst hz
      have HX := KH.hid hx
      clear hx
      obtain ⟨wo, hwo⟩ : ∃ wo : World, wo = wr := ⟨_, rfl⟩
      subst hwo
      go_wp2
      go_loopw [8, 9] (fun v t wr => ∃ j q : Nat, j ≤ n ∧ t = .int .i64 j ∧ v = .int .i64 (KH.wt (nats l) i y j : Nat) ∧ wr = wo.drewN q) (fun _ t _ => n - (intOf t).toNat)
      case atStart => exact ⟨0, 0, Nat.zero_le _, rfl, rfl, rfl⟩
      case round =>
        obtain ⟨j, q, hj, rfl, rfl, hwq⟩ := hrel
        have HQ := KH.hid hwq
        have hrq : KH.Reads wr w.heap.size 1 (some ad) n (l.map (.int .i64)) := by rw [hwq]; exact hrr
        have hcq : wr.cell? (ad.add i) = some (.int .i64 ((nats l).getD i 0 : Nat)) := by rw [hwq]; exact hc
        have hownq : wr.ownsRow w.heap.size 3 1 u6 i (bz i fun t => KH.wt (nats l) t y n) := by rw [hwq]; exact hown
        have hbq : Below w.heap.size w wr := by rw [hwq]; exact below_drewN hb q
        have hsq : w.heap.size ≤ wr.heap.size := by rw [hwq]; exact hsz
        clear hwq hrr hc hown hb hsz
        by_cases hjl : j < n
        · by_cases hji : j = i
          · subst hji
            have hne : ((j : Int) != (j : Int)) = false := by simp
            have HW : Hid (KH.wt (nats l) j y (j + 1) = KH.wt (nats l) j y j) := by unfold Hid; rw [KH.wt, if_pos rfl]
            clear hcq hrq hownq hbq
            go_wp2
            go_roundw
            case rel => exact ⟨j + 1, q, by omega, by go_num, by rw [HW.out], HQ.out⟩
            case measure => simp [intOf]; omega
          · have hne : ((j : Int) != (i : Int)) = true := by simp; omega
            obtain ⟨ad', z, hA, _, hx, hc'⟩ := hrq.int hjl
            injection hA with hA
            subst hA
            have hz := nats_get HP.out.1 hx
            have ha8 : (nats l).getD j 0 < 256 := (dg_nats HP.out.1).getD j
            subst hz
            have HW : Hid (KH.wt (nats l) i y (j + 1) = KH.mul (KH.wt (nats l) i y j) (KH.mul (y ^^^ (nats l).getD j 0) (KH.inv ((nats l).getD i 0 ^^^ (nats l).getD j 0)))) := by unfold Hid; rw [KH.wt, if_neg hji]
            have hdf : (nats l).getD i 0 ≠ (nats l).getD j 0 := by
              intro e
              have h1 := HX.out
              rw [e] at h1
              have hp := List.pairwise_iff_getElem.1 HP.out.2
              have hil' : i < l.length := by have := HL.out; omega
              have hjl' : j < l.length := by have := HL.out; omega
              rw [List.getElem?_eq_getElem hil'] at h1
              rw [List.getElem?_eq_getElem hjl'] at hx
              injection h1 with h1; injection hx with hx
              rcases Nat.lt_or_ge i j with h' | h'
              · exact hp i j hil' hjl' h' (by rw [h1, hx])
              · exact hp j i hjl' hil' (by omega) (by rw [h1, hx])
            have hx1 : 1 ≤ (nats l).getD i 0 ^^^ (nats l).getD j 0 := by have := KH.xor_ne hdf; omega
            clear hdf hx hji
            have hwt := KH.wt_lt (nats l) i y j
            generalize KH.wt (nats l) i y j = wj at *
            generalize (nats l).getD i 0 = o at *
            generalize (nats l).getD j 0 = a at *
            have hx2 : o ^^^ a < 256 := KH.xor_lt ho8 ha8
            have hx3 : y ^^^ a < 256 := KH.xor_lt hy ha8
            have i0' : (0 : Int) ≤ (i : Int) := by omega
            have i1' : (i : Int) < (n : Int) := by omega
            have j0 : (0 : Int) ≤ (j : Int) := by omega
            have j1 : (j : Int) < (n : Int) := by omega
            have hml : KH.mul (y ^^^ a) (KH.inv (o ^^^ a)) < 256 := KH.mul_lt _ _
            clear hownq hbq hrq
            go_wp2
            go_quiet ((first | (go_at_call 57; exact quiet_eq (rsum_nat _ _ _ (by omega) (by omega))) | (go_at_call 27; exact quiet_eq (rdiv_nat _ _ _ (by omega) (by omega) (by omega)))))
            go_wp2_with fail
            refine (rtimes_nat wj _ _ hwt hml).mono ?_; rintro e w' ⟨rfl, rfl⟩
            go_wp2
            go_roundw
            case rel => exact ⟨j + 1, _, by omega, by go_num, by rw [HW.out], by rw [HQ.out]; exact KH.dd⟩
            case measure => simp [intOf]; omega
        · obtain rfl : j = n := by omega
          have hd1 : decide ((j : Int) < (j : Int)) = false := by simp
          have HS := KH.hid (bz_snoc i fun t => KH.wt (nats l) t y j)
          clear hrq hcq
          generalize KH.wt (nats l) i y j = wv at *
          go_wp2_with (at_builtin; refine KH.wpList_append_one rfl (.tmp 57) (.tmp 59) 34 rfl w.heap.size 3 i0 _ 8 Try.underlying34 hi hz0 hz1 hz2 rfl _ i _ rfl (hownq.alloc _) wr.heap.size 1 (.int .i64 wv) rfl ?c1 rfl ?c3 ?c4 ?c5 ?_)
          first | (case c1 => simp) | skip
          case c3 => unfold maxLen; omega
          case c4 => omega
          case c5 => first | omega | (simp; omega)
          intro v1 w1' hown1 hb1
          have hb2 := (hbq.alloc hsq (.cells #[.int .i64 wv] 3)).trans hb1
          clear hownq hbq
          go_wp2
          go_roundw
          case rel => exact ⟨i + 1, by omega, by go_num, by rw [HS.out]; exact hown1, hb2⟩
          case measure => simp [intOf]; omega
    · obtain rfl : i = n := by omega
      have hd1 : decide ((i : Int) < (i : Int)) = false := by simp
      obtain ⟨A', c', rfl⟩ := KH.own_form hown
      go_wp2
      go_ret2
      exact ⟨_, _, _, by rw [HK.out.1]; rfl, by rw [HK.out.2, bz_wts]; exact hown, hb, by rw [HK.out.2, wts_length]⟩

theorem rweights_told {n : Nat} {A : Option Addr} (c : Nat) {l : List Int} {w : World} (h : KH.Reads w w.heap.size 1 A n (l.map (.int .i64))) (hn : n ≤ maxLen) (x : Int) :
    Calls Try.prog 79 #[.slice A n c, .int .i64 x] w (WeightsPost w l x) := by
  cases hk : weightsK l x
  · exact rweights_no c h hn x hk
  · exact rweights_yes c h x hk
end Go.Proofs.Ytdeoibgedjbeiaa
