/- The laws of tapes: a tape tells the shares, and there is just one. -/
import Derived.Test.YtdeoibgedjbeiaaDoorTapeE
import Derived.Test.YtdeoibgedjbeiaaDoorShareJ
namespace Go.Proofs.YtdeoibgedjbeiaaDoor
open Go.RowKit

/-- the digits of a tape that belong to a byte -/
def tpR (t : ByteArray) (j m : Nat) : List Nat := (List.range m).map fun q => sb t (32 * q + j)
theorem tpR_length (t : ByteArray) (j m : Nat) : (tpR t j m).length = m := by simp [tpR]
theorem tpR_dg (t : ByteArray) (j m : Nat) : KH.Dg (tpR t j m) := fun a ha => by
  unfold tpR at ha
  obtain ⟨q, _, rfl⟩ := List.mem_map.1 ha
  exact sb_lt _ _
theorem nats_row (s t : ByteArray) (j m : Nat) : nats (rowL s t j m) = sb s j :: tpR t j m := by
  unfold rowL nats tpR
  rw [List.map_cons, List.map_map]
  rfl
theorem tpR_tape {s : ByteArray} {c : List (Int × ByteArray)} {j : Nat} (hj : j < 32) :
    tpR (tx (c.length * 32) (tapF s c)) j c.length = KH.tapeOf (xsN c) (ysN c j) (sb s j) := by
  refine List.ext_getElem (by rw [tpR_length, KH.tapeOf_length, xsN_length]) fun q h1 h2 => ?_
  have hq : q < c.length := by rw [tpR_length] at h1; exact h1
  simp only [tpR, List.getElem_map, List.getElem_range]
  rw [tx_sb (fun o _ => tapF_lt s c o) (by omega)]
  unfold tapF
  rw [show (32 * q + j) % 32 = j by omega, show (32 * q + j) / 32 = q by omega, KH.getD_eq h2]
theorem right_least {c : List (Int × ByteArray)} (h : rightS c 1 = true) : ∀ x ∈ xsN c, x ≠ 0 := by
  intro x hx
  unfold xsN nats at hx
  rw [List.map_map] at hx
  obtain ⟨p, hp, rfl⟩ := List.mem_map.1 hx
  have := (rightS_iff.1 h).2.2.2 p hp
  show p.1.toNat ≠ 0
  omega
/-- the tape tells each of the shares -/
theorem tape_tells {s : ByteArray} {c : List (Int × ByteArray)} (h : rightS c 1 = true) {j : Nat} (hj : j < 32) {p : Int × ByteArray} (hp : p ∈ c) :
    KH.ev (nats (rowL s (tx (c.length * 32) (tapF s c)) j c.length)) p.1.toNat = sb p.2 j := by
  obtain ⟨hd, hn⟩ := right_dg (right_one h)
  obtain ⟨i, hi, rfl⟩ := List.getElem_of_mem hp
  have hg : c[i]? = some c[i] := List.getElem?_eq_getElem hi
  rw [nats_row, tpR_tape hj, ← xsN_get hg, KH.tapeOf_tells hd hn (right_least h) (ysN_dg c j) (by rw [ysN_length, xsN_length]) (sb_lt s j) (by rw [xsN_length]; exact hi), ysN_get hg]
/-- the tape that tells the shares is that tape -/
theorem tape_back {s t : ByteArray} {c : List (Int × ByteArray)} (h : rightS c 1 = true) (ht : t.size = 32 * c.length)
    (hp : ∀ p ∈ c, ∀ j, j < 32 → KH.ev (nats (rowL s t j c.length)) p.1.toNat = sb p.2 j) : tx (c.length * 32) (tapF s c) = t := by
  obtain ⟨hd, hn⟩ := right_dg (right_one h)
  refine sb_ext (by rw [tx_size, ht]; omega) fun o ho => ?_
  rw [tx_size] at ho
  rw [tx_sb (fun o _ => tapF_lt s c o) ho]
  have hj : o % 32 < 32 := Nat.mod_lt _ (by omega)
  have hu : KH.tapeOf (xsN c) (ysN c (o % 32)) (sb s (o % 32)) = tpR t (o % 32) c.length := by
    refine KH.tape_unique (s := sb s (o % 32)) hd hn (right_least h) (sb_lt _ _) KH.Dg.tapeOf (tpR_dg _ _ _) (KH.tapeOf_length _ _ _) (by rw [tpR_length, xsN_length]) fun i hi => ?_
    rw [KH.tapeOf_tells hd hn (right_least h) (ysN_dg c _) (by rw [ysN_length, xsN_length]) (sb_lt _ _) hi, ← nats_row]
    rw [xsN_length] at hi
    have hg : c[i]? = some c[i] := List.getElem?_eq_getElem hi
    rw [ysN_get hg, xsN_get hg]
    exact (hp _ (List.getElem_mem hi) _ hj).symm
  unfold tapF
  rw [hu, KH.getD_eq (by rw [tpR_length]; omega)]
  simp only [tpR, List.getElem_map, List.getElem_range]
  rw [show 32 * (o / 32) + o % 32 = o by omega]

theorem chs_mem {l : List (Int × ByteArray)} {wh : List Bool} {i : Nat} (hw : wh.getD i false = true) : ∀ q, i < q → l.getD i (0, ⟨#[]⟩) ∈ chs l wh q := by
  intro q hq
  induction q with
  | zero => omega
  | succ q ih =>
    show _ ∈ chs l wh q ++ _
    rw [List.mem_append]
    by_cases e : i = q
    · subst e; right; rw [if_pos hw]; exact List.mem_singleton.2 rfl
    · left; exact ih (by omega)
theorem chs_congr {l m : List (Int × ByteArray)} {wh : List Bool} : ∀ q, (∀ i, i < q → wh.getD i false = true → l.getD i (0, ⟨#[]⟩) = m.getD i (0, ⟨#[]⟩)) → chs l wh q = chs m wh q := by
  intro q h
  induction q with
  | zero => rfl
  | succ q ih =>
    show chs l wh q ++ _ = chs m wh q ++ _
    rw [ih fun i hi => h i (by omega)]
    cases hw : wh.getD q false
    · rfl
    · rw [if_pos rfl, if_pos rfl, h q (by omega) hw]
theorem splitL_getD {s t : ByteArray} {n k i : Nat} (h : i < n) : (splitL s t n k).getD i (0, ⟨#[]⟩) = (((i + 1 : Nat) : Int), tx 32 (shv s t k i)) := by
  rw [List.getD, splitL_get h]; rfl

/-- whatever other secret there is: by the tape for it the chosen shares are the same, and the tape is told back -/
theorem hides_law {s t o : ByteArray} {n k : Nat} {wh : List Bool} (hs : s.size = 32) (ho : o.size = 32) (hn : n ≤ 255) (hk : k ≤ n) (ht : t.size = 32 * (k - 1))
    (hc : (chsL (splitL s t n k) wh).length = k - 1) (h1 : 1 ≤ (chsL (splitL s t n k) wh).length) :
    tapeK o (chsL (splitL s t n k) wh) = true ∧ tapeK s (chsL (splitL s t n k) wh) = true ∧ splitK o n k (tapeV o (chsL (splitL s t n k) wh)) = true ∧
      chsL (splitL o (tapeV o (chsL (splitL s t n k) wh)) n k) wh = chsL (splitL s t n k) wh ∧ tapeV s (chsL (splitL s t n k) wh) = t := by
  have hsub := chsL_sub (splitL s t n k) wh
  have hr : rightS (chsL (splitL s t n k) wh) 1 = true := sub_right hn hsub h1
  have hK : ∀ u : ByteArray, u.size = 32 → tapeK u (chsL (splitL s t n k) wh) = true := fun u hu => by
    unfold tapeK
    rw [hr, decide_eq_true hu, decide_eq_true (by omega)]; rfl
  have hV : ∀ u : ByteArray, u.size = 32 → tapeV u (chsL (splitL s t n k) wh) = tx ((chsL (splitL s t n k) wh).length * 32) (tapF u (chsL (splitL s t n k) wh)) := fun u hu => by
    unfold tapeV; rw [hK u hu]; rfl
  refine ⟨hK o ho, hK s hs, splitK_iff.2 ⟨ho, by omega, by omega, by omega, by omega, by rw [hV o ho, tx_size, hc]; omega⟩, ?_, ?_⟩
  · rw [hV o ho]
    generalize hcc : chsL (splitL s t n k) wh = c at *
    have hlen : (splitL o (tx (c.length * 32) (tapF o c)) n k).length = (splitL s t n k).length := by rw [splitL_length, splitL_length]
    unfold chsL at hcc ⊢
    rw [hlen, ← hcc]
    refine chs_congr _ fun i hi hw => ?_
    rw [splitL_length] at hi
    have hi' : i < n := by omega
    rw [splitL_getD hi', splitL_getD hi']
    have hmem : (((i + 1 : Nat) : Int), tx 32 (shv s t k i)) ∈ c := by
      rw [← splitL_getD hi', ← hcc]
      exact chs_mem hw _ (by rw [splitL_length]; omega)
    refine Prod.ext rfl ?_
    show tx 32 _ = tx 32 _
    refine tx_congr fun j hj => ?_
    have := tape_tells (s := o) hr hj hmem
    rw [tx_sb (fun o _ => shv_lt _ _ _ _ _) hj] at this
    rw [← this]
    unfold shv
    rw [← hc, show ((i + 1 : Nat) : Int).toNat = i + 1 from Int.toNat_natCast _]
    rw [hcc]
  · rw [hV s hs]
    refine tape_back hr (by rw [hc]; exact ht) fun p hp j hj => ?_
    obtain ⟨i, hi, rfl⟩ := splitL_mem (hsub.subset hp)
    rw [tx_sb (fun o _ => shv_lt _ _ _ _ _) hj, hc]
    unfold shv
    rw [show ((i + 1 : Nat) : Int).toNat = i + 1 from Int.toNat_natCast _]
end Go.Proofs.YtdeoibgedjbeiaaDoor
