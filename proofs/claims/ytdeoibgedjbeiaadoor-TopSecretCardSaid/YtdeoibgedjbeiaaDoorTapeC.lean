/- The tape's digits, as the program's rounds make them. -/
import Derived.Test.YtdeoibgedjbeiaaDoorTapeB
namespace Go.Proofs.YtdeoibgedjbeiaaDoor
open Go.RowKit

theorem nats_zi (L : List Nat) : nats (zi L) = L := by
  unfold nats zi
  rw [List.map_map]
  conv => rhs; rw [← List.map_id L]
  exact List.map_congr_left fun d _ => Int.toNat_natCast d
theorem allB_zi {L : List Nat} (h : KH.Dg L) : allB (zi L) = true := by
  rw [allB_iff]
  intro x hx
  unfold zi at hx
  obtain ⟨d, hd, rfl⟩ := List.mem_map.1 hx
  have := h d hd
  omega

/-- what is left of the shares' bytes -/
def rsN (s : ByteArray) (l : List (Int × ByteArray)) (j : Nat) : List Nat := (ysN l j).map (sb s j ^^^ ·)
def tpF (s : ByteArray) (l : List (Int × ByteArray)) (k t j : Nat) : Nat := (KH.tp (xsN l) (rsN s l j) k).getD t 0
theorem tpF_lt (s : ByteArray) (l : List (Int × ByteArray)) (k t j : Nat) : tpF s l k t j < 256 := (KH.Dg.tp k).getD t
/-- the weight of a digit -/
def wgt (l : List (Int × ByteArray)) (k t : Nat) : Nat := KH.mul ((KH.qo (xsN l) k).getD t 0) (KH.so (xsN l) k)
theorem tpF_step {s : ByteArray} {l : List (Int × ByteArray)} {k t j : Nat} {p : Int × ByteArray} (h : l[k]? = some p) (ht : t < l.length) :
    tpF s l (k + 1) t j = tpF s l k t j ^^^ KH.mul (wgt l k t) (sb s j ^^^ sb p.2 j) := by
  unfold tpF
  show (KH.zx _ _).getD t 0 = _
  unfold KH.zx
  have h1 : t < (KH.tp (xsN l) (rsN s l j) k).length := by rw [KH.tp_length, xsN_length]; exact ht
  have h2 : t < (KH.qo (xsN l) k).length := by rw [KH.qo_length, xsN_length]; exact ht
  have hr : (rsN s l j).getD k 0 = sb s j ^^^ sb p.2 j := by
    unfold rsN ysN
    rw [List.getD, List.getElem?_map, List.getElem?_map, h]; rfl
  rw [hr, List.getD, List.getElem?_zipWith, List.getElem?_eq_getElem h1, List.getElem?_map, List.getElem?_eq_getElem h2]
  unfold wgt
  rw [KH.getD_eq h1, KH.getD_eq h2]
  rfl
theorem tpF_zero (s : ByteArray) (l : List (Int × ByteArray)) (t j : Nat) : tpF s l 0 t j = 0 := by
  unfold tpF
  show (List.replicate _ 0).getD t 0 = 0
  rw [List.getD, List.getElem?_replicate]
  split <;> rfl
/-- the tape's cells in round k, the first q rows done -/
def tF (s : ByteArray) (l : List (Int × ByteArray)) (k q o : Nat) : Nat := if o / 32 < q then tpF s l (k + 1) (o / 32) (o % 32) else tpF s l k (o / 32) (o % 32)
theorem tF_zero (s : ByteArray) (l : List (Int × ByteArray)) (o : Nat) : tF s l 0 0 o = 0 := by unfold tF; rw [if_neg (by omega), tpF_zero]
theorem tF_next {s : ByteArray} {l : List (Int × ByteArray)} {k n o : Nat} (h : o < n * 32) : tF s l k n o = tF s l (k + 1) 0 o := by
  unfold tF; rw [if_pos (by omega), if_neg (by omega)]
theorem tF_in {s : ByteArray} {l : List (Int × ByteArray)} {k q j : Nat} (hj : j < 32) : tF s l k q (q * 32 + j) = tpF s l k q j := by
  unfold tF
  rw [show (q * 32 + j) / 32 = q by omega, show (q * 32 + j) % 32 = j by omega, if_neg (by omega)]
theorem tF_step {s : ByteArray} {l : List (Int × ByteArray)} {k q o : Nat} :
    (if q * 32 ≤ o ∧ o < q * 32 + 32 then tpF s l (k + 1) q (o - q * 32) else tF s l k q o) = tF s l k (q + 1) o := by
  unfold tF
  by_cases h : q * 32 ≤ o ∧ o < q * 32 + 32
  · rw [if_pos h, show o / 32 = q by omega, if_pos (by omega), show o % 32 = o - q * 32 by omega]
  · rw [if_neg h]
    by_cases h1 : o / 32 < q
    · rw [if_pos h1, if_pos (by omega)]
    · rw [if_neg h1, if_neg (by omega)]

/-- the tape of a secret and shares -/
def tapF (s : ByteArray) (l : List (Int × ByteArray)) (o : Nat) : Nat := (KH.tapeOf (xsN l) (ysN l (o % 32)) (sb s (o % 32))).getD (o / 32) 0
theorem tF_all (s : ByteArray) (l : List (Int × ByteArray)) (o : Nat) : tF s l l.length 0 o = tapF s l o := by
  unfold tF tapF tpF KH.tapeOf rsN
  rw [if_neg (by omega), xsN_length]
theorem tapF_lt (s : ByteArray) (l : List (Int × ByteArray)) (o : Nat) : tapF s l o < 256 := KH.Dg.tapeOf.getD _
def tapeK (s : ByteArray) (l : List (Int × ByteArray)) : Bool := decide (s.size = 32) && (rightS l 1 && decide (l.length ≠ 255))
def tapeV (s : ByteArray) (l : List (Int × ByteArray)) : ByteArray := if tapeK s l then tx (l.length * 32) (tapF s l) else ⟨#[]⟩
def tapeE (s : ByteArray) (l : List (Int × ByteArray)) : Int := if s.size = 32 then if rightS l 1 && decide (l.length ≠ 255) then 0 else 90 else 1

/-! ### Blocks -/
theorem own_blk {w : World} {base g n : Nat} {e : TypeId} {size : Nat} {xs : List Value} (h : w.ownsRow base e size (.slice (some ⟨g, 0, none⟩) n n) n xs) : KH.Blk w g e xs.toArray := by
  obtain ⟨hl, h0 | ⟨g', cap, cur, hv, _, hh, hnc, _, hsz, ht⟩⟩ := h
  · cases h0.1
  · injection hv with h1 h2 h3
    injection h1 with h1
    injection h1 with h1 _
    subst h1; subst h3
    have : cur.toList = xs := by rw [← ht, List.take_of_length_le (by simp [hsz])]
    rw [← this]
    simpa [KH.Blk] using hh
theorem blk_mid {w : World} {g N o : Nat} {t : TypeId} {F G : Nat → Nat} (h : KH.Blk w g t (bl N F).toArray) (ho : o + 32 ≤ N) :
    KH.Blk (w.setCells g o (bl 32 G)) g t (bl N fun p => if o ≤ p ∧ p < o + 32 then G (p - o) else F p).toArray := by
  obtain ⟨cs', h1, h2, h3⟩ := blk_setCells (bl 32 G) o w _ h (by rw [bl_length, bl_size]; exact ho)
  have : cs' = (bl N fun p => if o ≤ p ∧ p < o + 32 then G (p - o) else F p).toArray := by
    refine Array.ext_getElem? fun i => ?_
    rw [h3 i, bl_length, List.getElem?_toArray, List.getElem?_toArray]
    by_cases hi : i < N
    · have hr : (bl N fun p => if o ≤ p ∧ p < o + 32 then G (p - o) else F p)[i]? = some (.int .u8 ((if o ≤ i ∧ i < o + 32 then G (i - o) else F i : Nat))) := bl_get _ hi
      rw [hr]
      by_cases hm : o ≤ i ∧ i < o + 32
      · rw [if_pos hm, if_pos hm, bl_get _ (by omega)]
      · rw [if_neg hm, if_neg hm, bl_get _ hi]
    · rw [if_neg (by omega), List.getElem?_eq_none (by rw [bl_length]; omega), List.getElem?_eq_none (by rw [bl_length]; omega)]
  rw [← this]; exact h1
theorem blk_range_mid {w : World} {g N o : Nat} {t : TypeId} {F G : Nat → Nat} (h : KH.Blk w g t (bl N F).toArray) (ho : o + 32 ≤ N) (hG : ∀ j, j < 32 → F (o + j) = G j) : w.rangeAt g o (bl 32 G) := fun j v hv => by
  have hj : j < 32 := by
    rcases Nat.lt_or_ge j 32 with h | h
    · exact h
    · rw [List.getElem?_eq_none (by rw [bl_length]; exact h)] at hv; cases hv
  rw [h.cell (o + j), List.getElem?_toArray, bl_get _ (by omega), hG j hj, ← hv, bl_get _ hj]
theorem blk_there_mid {w : World} {g N o : Nat} {t : TypeId} {F : Nat → Nat} (h : KH.Blk w g t (bl N F).toArray) (ho : o + 32 ≤ N) : w.there g o 32 := fun j hj => by
  refine ⟨?_, h.frozen _⟩
  rw [h.cell (o + j), List.getElem?_toArray, bl_get _ (by omega)]; rfl
end Go.Proofs.YtdeoibgedjbeiaaDoor
