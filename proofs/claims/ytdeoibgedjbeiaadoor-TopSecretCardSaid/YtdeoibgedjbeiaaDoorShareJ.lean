/- The plain laws of the statements on shares: any k tell all, sums. -/
import Derived.Test.YtdeoibgedjbeiaaDoorShareI
namespace Go.Proofs.YtdeoibgedjbeiaaDoor

theorem tx_congr {N : Nat} {F G : Nat → Nat} (h : ∀ o, o < N → F o = G o) : tx N F = tx N G := by
  unfold tx
  congr 1
  refine List.map_congr_left fun o ho => ?_
  rw [h o (List.mem_range.1 ho)]
theorem tx_self {s : ByteArray} {N : Nat} (h : s.size = N) : tx N (sb s) = s := by
  subst h
  refine sb_ext (tx_size _ _) fun o ho => ?_
  rw [tx_size] at ho
  exact tx_sb (fun o _ => sb_lt s o) ho

theorem chs_sub (l : List (Int × ByteArray)) (wh : List Bool) (k : Nat) (hk : k ≤ l.length) : (chs l wh k).Sublist (l.take k) := by
  induction k with
  | zero => exact List.Sublist.refl _
  | succ k ih =>
    unfold chs
    rw [List.take_add_one, List.getElem?_eq_getElem (by omega), List.getD, List.getD, List.getElem?_eq_getElem (show k < l.length by omega)]
    refine (ih (by omega)).append ?_
    split
    · exact List.Sublist.refl _
    · exact List.nil_sublist _
theorem chsL_sub (l : List (Int × ByteArray)) (wh : List Bool) : (chsL l wh).Sublist l :=
  (chs_sub l wh _ (Nat.min_le_left _ _)).trans (List.take_sublist _ _)

theorem splitL_mem {secret tape : ByteArray} {n k : Nat} {p : Int × ByteArray} (h : p ∈ splitL secret tape n k) : ∃ i, i < n ∧ p = (((i + 1 : Nat) : Int), tx 32 (shv secret tape k i)) := by
  unfold splitL at h
  obtain ⟨i, hi, rfl⟩ := List.mem_map.1 h
  exact ⟨i, List.mem_range.1 hi, rfl⟩
theorem splitL_get {secret tape : ByteArray} {n k i : Nat} (h : i < n) : (splitL secret tape n k)[i]? = some (((i + 1 : Nat) : Int), tx 32 (shv secret tape k i)) := by
  unfold splitL; rw [List.getElem?_map, List.getElem?_range h]; rfl
theorem splitL_nodup (secret tape : ByteArray) (n k : Nat) : ((splitL secret tape n k).map (·.1)).Nodup := by
  unfold splitL
  rw [List.map_map]
  refine List.pairwise_map.2 (List.nodup_range.imp fun {a b} hab e => hab ?_)
  have e' : ((a + 1 : Nat) : Int) = ((b + 1 : Nat) : Int) := e
  omega

/-- shares of one secret, some of them: right -/
theorem sub_right {secret tape : ByteArray} {n k : Nat} (hn : n ≤ 255) {c : List (Int × ByteArray)} (hc : c.Sublist (splitL secret tape n k)) (h1 : 1 ≤ c.length) : rightS c 1 = true := by
  refine rightS_iff.2 ⟨h1, by have := hc.length_le; rw [splitL_length] at this; omega, (splitL_nodup secret tape n k).sublist (hc.map _), fun p hp => ?_⟩
  obtain ⟨i, hi, rfl⟩ := splitL_mem (hc.subset hp)
  refine ⟨?_, ?_, tx_size _ _⟩
  · show (1 : Int) ≤ ((i + 1 : Nat) : Int); omega
  · show ((i + 1 : Nat) : Int) ≤ 255; omega

theorem right_dg {c : List (Int × ByteArray)} (h : rightS c 0 = true) : KH.Dg (xsN c) ∧ (xsN c).Nodup := by
  have hp := right_places h
  unfold placesB at hp
  rw [Bool.and_eq_true, decide_eq_true_iff] at hp
  exact ⟨dg_nats hp.2, nats_nodup hp.2 hp.1.2.2⟩
theorem ysN_dg (c : List (Int × ByteArray)) (j : Nat) : KH.Dg (ysN c j) := by
  intro a ha
  unfold ysN at ha
  obtain ⟨p, _, rfl⟩ := List.mem_map.1 ha
  exact sb_lt _ _
theorem xsN_get {c : List (Int × ByteArray)} {i : Nat} {p : Int × ByteArray} (h : c[i]? = some p) : (xsN c).getD i 0 = p.1.toNat := by
  unfold xsN nats; rw [List.getD, List.getElem?_map, List.getElem?_map, h]; rfl

/-- what goes through shares of one polynomial of at most as many digits is that polynomial -/
theorem at_poly {c : List (Int × ByteArray)} (h : rightS c 0 = true) {j : Nat} {l : List Nat} (hl : KH.Dg l) (hlen : l.length ≤ c.length) (hv : ∀ p ∈ c, sb p.2 j = KH.ev l p.1.toNat) {x : Nat} (hx : x < 256) : atF c x c.length j = KH.ev l x := by
  obtain ⟨hd, hn⟩ := right_dg h
  unfold atF
  have := KH.through hd hn (ysN_dg c j) hl (by rw [xsN_length]; exact hlen) (fun i hi => ?_) hx
  · rw [xsN_length] at this; exact this
  · rw [xsN_length] at hi
    have hg : c[i]? = some c[i] := List.getElem?_eq_getElem hi
    rw [ysN_get hg, xsN_get hg]
    exact hv _ (List.getElem_mem hi)

theorem row_dg (secret tape : ByteArray) (j m : Nat) : KH.Dg (nats (rowL secret tape j m)) := dg_nats (rowL_all _ _ _ _)
theorem row_zero (secret tape : ByteArray) (j m : Nat) : KH.ev (nats (rowL secret tape j m)) 0 = sb secret j := by
  unfold rowL nats
  show ((sb secret j : Nat) : Int).toNat ^^^ KH.mul 0 _ = _
  rw [KH.zero_mul, Nat.xor_zero, Int.toNat_natCast]

/-- any k of the shares, or more, tell each -/
theorem any_at {secret tape : ByteArray} {n k : Nat} (hk1 : 1 ≤ k) (hn : n ≤ 255) {c : List (Int × ByteArray)} (hc : c.Sublist (splitL secret tape n k)) (hkc : k ≤ c.length) {x j : Nat} (hx : x < 256) (hj : j < 32) :
    atF c x c.length j = KH.ev (nats (rowL secret tape j (k - 1))) x := by
  refine at_poly (right_one (sub_right hn hc (by omega))) (row_dg _ _ _ _) (by rw [nats_length, rowL_length]; omega) (fun p hp => ?_) hx
  obtain ⟨i, hi, rfl⟩ := splitL_mem (hc.subset hp)
  show sb (tx 32 (shv secret tape k i)) j = _
  rw [tx_sb (fun o _ => shv_lt _ _ _ _ _) hj]
  show KH.ev _ (i + 1) = KH.ev _ (((i + 1 : Nat) : Int)).toNat
  rw [Int.toNat_natCast]
theorem any_law {secret tape : ByteArray} {n k : Nat} (hs : secret.size = 32) (hk1 : 1 ≤ k) (hn : n ≤ 255) {c : List (Int × ByteArray)} (hc : c.Sublist (splitL secret tape n k)) (hkc : k ≤ c.length) :
    combV c = secret ∧ combE c = 0 ∧ ∀ i, i < n → atV c ((i + 1 : Nat) : Int) = tx 32 (shv secret tape k i) ∧ atE c ((i + 1 : Nat) : Int) = 0 := by
  have hr1 := sub_right hn hc (by omega)
  have hr0 := right_one hr1
  refine ⟨?_, ?_, fun i hi => ⟨?_, ?_⟩⟩
  · unfold combV combK
    rw [hr1, if_pos rfl, tx_congr (G := sb secret) fun o ho => ?_]
    · exact tx_self hs
    · rw [any_at hk1 hn hc hkc (by omega) ho, row_zero]
  · unfold combE combK; rw [hr1]; rfl
  · have hd : dgB ((i + 1 : Nat) : Int) = true := dgB_iff.2 (by omega)
    unfold atV
    rw [hr0, hd]
    show tx 32 _ = _
    rw [Int.toNat_natCast]
    refine tx_congr fun o ho => ?_
    rw [any_at hk1 hn hc hkc (by omega) ho]; rfl
  · have hd : dgB ((i + 1 : Nat) : Int) = true := dgB_iff.2 (by omega)
    unfold atE; rw [hr0, hd]; rfl

/-! ### Sums -/
theorem xbS_size {s t : ByteArray} (h : s.size = t.size) : (xbS s t).size = s.size := by unfold xbS; rw [tx_size, h, Nat.min_self]
theorem xbS_sb {s t : ByteArray} (h : s.size = t.size) {o : Nat} (ho : o < s.size) : sb (xbS s t) o = sb s o ^^^ sb t o := by
  unfold xbS
  rw [tx_sb (fun o _ => xbF_lt s t o) (by omega)]; rfl
theorem rows_zx {s t a b : ByteArray} (hs : s.size = 32) (ht : t.size = 32) {k : Nat} (ha : a.size = 32 * (k - 1)) (hb : b.size = 32 * (k - 1)) {j : Nat} (hj : j < 32) :
    nats (rowL (xbS s t) (xbS a b) j (k - 1)) = KH.zx (nats (rowL s a j (k - 1))) (nats (rowL t b j (k - 1))) := by
  have h1 : ∀ (u v : ByteArray), nats (rowL u v j (k - 1)) = sb u j :: (List.range (k - 1)).map fun q => sb v (32 * q + j) := fun u v => by
    unfold nats rowL
    rw [List.map_cons, Int.toNat_natCast, List.map_map]
    rfl
  rw [h1, h1, h1]
  show _ = (sb s j ^^^ sb t j) :: List.zipWith (· ^^^ ·) _ _
  rw [xbS_sb (by omega) (by omega)]
  congr 1
  refine List.ext_getElem (by simp) fun q h2 h3 => ?_
  have hq : q < k - 1 := by simpa using h2
  rw [List.getElem_map, List.getElem_range, List.getElem_zipWith, List.getElem_map, List.getElem_range, List.getElem_map, List.getElem_range]
  exact xbS_sb (by omega) (by omega)
theorem sums_shv {s t a b : ByteArray} (hs : s.size = 32) (ht : t.size = 32) {k : Nat} (ha : a.size = 32 * (k - 1)) (hb : b.size = 32 * (k - 1)) {i j : Nat} (hi : i < 255) (hj : j < 32) :
    shv (xbS s t) (xbS a b) k i j = shv s a k i j ^^^ shv t b k i j := by
  unfold shv
  rw [rows_zx hs ht ha hb hj, KH.ev_zx (row_dg _ _ _ _) (row_dg _ _ _ _) (by rw [nats_length, nats_length, rowL_length, rowL_length]) (by omega)]
theorem sums_text {s t a b : ByteArray} (hs : s.size = 32) (ht : t.size = 32) {k : Nat} (ha : a.size = 32 * (k - 1)) (hb : b.size = 32 * (k - 1)) {i : Nat} (hi : i < 255) :
    xbS (tx 32 (shv s a k i)) (tx 32 (shv t b k i)) = tx 32 (shv (xbS s t) (xbS a b) k i) := by
  show tx (min _ _) _ = _
  rw [tx_size, tx_size, Nat.min_self]
  refine tx_congr fun o ho => ?_
  unfold xbF
  rw [tx_sb (fun o _ => shv_lt _ _ _ _ _) ho, tx_sb (fun o _ => shv_lt _ _ _ _ _) ho, sums_shv hs ht ha hb hi ho]
theorem splitK_iff {secret tape : ByteArray} {n k : Int} : splitK secret n k tape = true ↔ secret.size = 32 ∧ 1 ≤ n ∧ n ≤ 255 ∧ 1 ≤ k ∧ k ≤ n ∧ (tape.size : Int) = 32 * (k - 1) := by unfold splitK; rw [decide_eq_true_iff]
theorem sums_K {s t a b : ByteArray} {n k : Int} (h1 : splitK s n k a = true) (h2 : splitK t n k b = true) : splitK (xbS s t) n k (xbS a b) = true := by
  obtain ⟨a1, a2, a3, a4, a5, a6⟩ := splitK_iff.1 h1
  obtain ⟨b1, b2, b3, b4, b5, b6⟩ := splitK_iff.1 h2
  refine splitK_iff.2 ⟨by rw [xbS_size (by omega)]; exact a1, a2, a3, a4, a5, ?_⟩
  rw [xbS_size (by omega)]; exact a6
end Go.Proofs.YtdeoibgedjbeiaaDoor
