/- Shares as they lie in memory; which are right; their places. -/
import Derived.Test.YtdeoibgedjbeiaaDoorShareA
namespace Go.Proofs.YtdeoibgedjbeiaaDoor
open Go.RowKit

theorem addr_next (a : Addr) (m j : Nat) (hj : j ≠ 0) : (⟨(a.add m).block, (a.add m).off + j, none⟩ : Addr) = a.add (m + j) := by
  unfold Addr.add
  by_cases h : m = 0
  · subst h; rw [if_pos rfl, if_neg (by omega), Nat.zero_add]
  · rw [if_neg h, if_neg (by omega)]; simp only []; congr 1; omega

/-- the cells of shares -/
def shC (l : List (Int × ByteArray)) : List Value := l.flatMap fun p => [.int .i64 p.1, .string p.2]
theorem shC_length (l : List (Int × ByteArray)) : (shC l).length = l.length * 2 := by
  induction l with
  | nil => rfl
  | cons p l ih => show (shC l).length + 2 = _; rw [ih]; simp; omega
theorem shC_get {l : List (Int × ByteArray)} {k : Nat} {x : Int} {b : ByteArray} (h : l[k]? = some (x, b)) : (shC l)[k * 2]? = some (.int .i64 x) ∧ (shC l)[k * 2 + 1]? = some (.string b) := by
  induction l generalizing k with
  | nil => cases h
  | cons p l ih =>
    cases k with
    | zero => injection h with h; subst h; exact ⟨rfl, rfl⟩
    | succ k =>
      have := ih (k := k) h
      rw [show (k + 1) * 2 = k * 2 + 1 + 1 by omega]
      exact this
/-- shares that lie there -/
def ShIn (w : World) (B : Nat) (A : Option Addr) (n : Nat) (l : List (Int × ByteArray)) : Prop := KH.Reads w B 2 A n (shC l)
theorem ShIn.len {w : World} {B n : Nat} {A : Option Addr} {l : List (Int × ByteArray)} (h : ShIn w B A n l) : l.length = n := by
  have := h.1; rw [shC_length] at this; omega
theorem ShIn.at_ {w : World} {B n : Nat} {A : Option Addr} {l : List (Int × ByteArray)} (h : ShIn w B A n l) {k : Nat} (hk : k < n) :
    ∃ ad x b, A = some ad ∧ ad.block < B ∧ l[k]? = some (x, b) ∧ w.cell? (ad.add (k * 2)) = some (.int .i64 x) ∧ w.cell? ⟨(ad.add (k * 2)).block, (ad.add (k * 2)).off + 1, none⟩ = some (.string b) := by
  obtain ⟨ad, hA, hb, hc⟩ := h.2 (by omega)
  have hl := h.len
  obtain ⟨p, hp⟩ : ∃ p, l[k]? = some p := ⟨_, List.getElem?_eq_getElem (by omega)⟩
  obtain ⟨x, b⟩ := p
  have := shC_get hp
  exact ⟨ad, x, b, hA, hb, hp, hc _ _ this.1, by rw [addr_next _ _ _ (by omega)]; exact hc _ _ this.2⟩

/-- is a share right? -/
def okS (least : Int) (p : Int × ByteArray) : Bool := decide (least ≤ p.1 ∧ p.1 ≤ 255 ∧ p.2.size = 32)
def rightS (l : List (Int × ByteArray)) (least : Int) : Bool := decide (1 ≤ l.length ∧ l.length ≤ 255 ∧ (l.map (·.1)).Nodup) && l.all (okS least)
/-- which places are there -/
def bb (S : List Int) : Array Value := ((List.range 256).map fun (o : Nat) => Value.bool (decide ((o : Int) ∈ S))).toArray
theorem bb_get (S : List Int) {x : Nat} (h : x < 256) : (bb S)[x]? = some (.bool (decide ((x : Int) ∈ S))) := by
  unfold bb; rw [List.getElem?_toArray, List.getElem?_map, List.getElem?_range h]; rfl
theorem bb_set (S : List Int) {x : Nat} : (bb S).setIfInBounds x (.bool true) = bb (S ++ [(x : Int)]) := by
  unfold bb
  rw [List.setIfInBounds_toArray]
  congr 1
  refine List.ext_getElem (by simp) fun j h1 h2 => ?_
  rw [List.getElem_set]
  by_cases e : x = j
  · subst e; rw [if_pos rfl]; simp
  · rw [if_neg e]; simp; omega

theorem bb_zero : Tryd.zeroCells71 = bb [] := by kernel_rfl

theorem right_step {l : List (Int × ByteArray)} {least : Int} {k : Nat} {p : Int × ByteArray} (hp : l[k]? = some p) (h1 : (l.take k).all (okS least) = true) (h2 : ((l.take k).map (·.1)).Nodup) (ho : okS least p = true) (hn : p.1 ∉ (l.take k).map (·.1)) :
    (l.take (k + 1)).all (okS least) = true ∧ ((l.take (k + 1)).map (·.1)).Nodup ∧ (l.take (k + 1)).map (·.1) = (l.take k).map (·.1) ++ [p.1] := by
  rw [List.take_add_one, hp]
  refine ⟨by simp [h1, ho], ?_, by simp⟩
  simp only [Option.toList_some, List.map_append, List.map_cons, List.map_nil]
  rw [List.nodup_append]
  refine ⟨h2, by simp, fun a ha b hb => ?_⟩
  simp at hb; subst hb
  rintro rfl; exact hn ha

theorem right_bad {l : List (Int × ByteArray)} {least : Int} {k : Nat} {p : Int × ByteArray} (hp : l[k]? = some p) (h : okS least p = false ∨ p.1 ∈ (l.take k).map (·.1)) : rightS l least = false := by
  unfold rightS
  rcases h with h | h
  · rw [Bool.and_eq_false_iff]; right
    rw [List.all_eq_false]
    exact ⟨p, List.mem_of_getElem? hp, by rw [h]; simp⟩
  · rw [Bool.and_eq_false_iff]; left
    rw [decide_eq_false_iff_not]
    rintro ⟨_, _, hn⟩
    have hk : k < l.length := by
      rcases Nat.lt_or_ge k l.length with h' | h'
      · exact h'
      · rw [List.getElem?_eq_none h'] at hp; cases hp
    obtain ⟨q, hq, hqp⟩ := List.mem_map.1 h
    obtain ⟨j, hj, rfl⟩ := List.mem_take_iff_getElem.1 hq
    have hp' := List.pairwise_iff_getElem.1 hn j k (by rw [List.length_map]; omega) (by rw [List.length_map]; omega) (by omega)
    rw [List.getElem_map, List.getElem_map] at hp'
    rw [List.getElem?_eq_getElem hk] at hp
    injection hp with hp
    rw [hp] at hp'
    exact hp' hqp

set_option maxHeartbeats 1000000 in
set_option maxRecDepth 100000 in
theorem sright_any {n : Nat} {A : Option Addr} (c : Nat) {l : List (Int × ByteArray)} {w : World} (h : ShIn w w.heap.size A n l) (hn : n ≤ maxLen) (least : Int) (h0 : 0 ≤ least) (h1 : least ≤ 255) (hsz : ∀ p ∈ l, p.2.size ≤ maxLen) :
    Calls Tryd.prog 21 #[.slice A n c, .int .i64 least] w fun e w' => e = .returned (.bool (rightS l least)) ∧ Below w.heap.size w w' := by
  have hl := h.len
  have hm : n ≤ 9223372036854775807 := by unfold maxLen at hn; omega
  by_cases hn1 : 1 ≤ n
  · by_cases hn255 : n ≤ 255
    · have HL := KH.hid hl; clear hl
      have HSZ := KH.hid hsz; clear hsz
      go_enter Tryd.func21, Tryd.ntmps21
      go_wp2
      rw [bb_zero]
      have hA1 := KH.Blk.new w 71 (bb [])
      have hA2 := (Below.refl w.heap.size w).alloc (Nat.le_refl _) (.cells (bb []) 71)
      generalize w.alloc (.cells (bb []) 71) = W at *
      go_loopw [18] (fun i wr => ∃ k : Nat, k ≤ n ∧ i = .int .i64 k ∧ Hid ((l.take k).all (okS least) = true ∧ ((l.take k).map (·.1)).Nodup) ∧ KH.Blk wr w.heap.size 71 (bb ((l.take k).map (·.1))) ∧ Below w.heap.size w wr) (fun i _ => n - (intOf i).toNat)
      case atStart => exact ⟨0, by omega, rfl, ⟨by simp, by simp⟩, by simpa using hA1, hA2⟩
      case round =>
        obtain ⟨k, hk, rfl, HO, hB, hb⟩ := hrel
        clear hA1 hA2
        have hszw := hb.size
        by_cases hlt : k < n
        · have hIn : ShIn wr w.heap.size A n l := KH.Reads.below h hb
          obtain ⟨ad, x, b, rfl, hab, hx, hc1, hc2⟩ := hIn.at_ hlt
          have HX := KH.hid hx; clear hx
          have hbz := HSZ.out _ (List.mem_of_getElem? HX.out)
          have hbz' : b.size ≤ 9223372036854775807 := by unfold maxLen at hbz; exact hbz
          by_cases hx1 : least ≤ x
          · by_cases hx2 : x ≤ 255
            · obtain ⟨y, rfl⟩ := Int.eq_ofNat_of_zero_le (show 0 ≤ x by omega)
              have hy : y < 256 := by omega
              have hth : (wr.alloc (.cells #[.int .i64 y, .string b] 36)).cell? ⟨w.heap.size, y, none⟩ = some (.bool (decide ((y : Int) ∈ (l.take k).map (·.1)))) := by
                rw [World.cell?_alloc_past _ _ _ (by exact hB.lt), hB.cell y, bb_get _ hy]
              have hfr : (wr.alloc (.cells #[.int .i64 y, .string b] 36)).frozen? ⟨w.heap.size, y, none⟩ = false := by
                rw [World.frozen?_alloc_past _ _ _ (by exact hB.lt)]; exact hB.frozen y
              have hblt := hB.lt
              by_cases hmem : (y : Int) ∈ (l.take k).map (·.1)
              · have HF : Hid (rightS l least = false) := right_bad HX.out (Or.inr hmem)
                rw [decide_eq_true hmem] at hth
                clear hmem hB
                go_wp2
                go_ret
                exact ⟨KH.ret_bool HF.out.symm, hb.alloc hszw _⟩
              · rw [decide_eq_false hmem] at hth
                by_cases hs32 : b.size = 32
                · have hsb : ((b.size : Int) != 32) = false := by simp [hs32]
                  have HN : Hid _ := right_step (p := ((y : Int), b)) HX.out HO.out.1 HO.out.2 (by unfold okS; rw [decide_eq_true]; exact ⟨hx1, hx2, hs32⟩) hmem
                  have hB2 := hB.set_ y (.bool true)
                  rw [bb_set] at hB2
                  have HB2 := KH.hid hB2
                  clear hmem hB hB2 hs32
                  go_wp2
                  go_roundw
                  case rel => exact ⟨k + 1, by omega, by go_num, ⟨HN.out.1, HN.out.2.1⟩, by rw [HN.out.2.2]; exact HB2.out.alloc _, (hb.setCell (p := ⟨w.heap.size, y, none⟩) (Nat.le_refl _) _).alloc (by simpa [World.setCell] using hszw) _⟩
                  case measure => simp [intOf]; omega
                · have hsb : ((b.size : Int) != 32) = true := by simp; omega
                  have HF : Hid (rightS l least = false) := right_bad HX.out (Or.inl (by unfold okS; rw [decide_eq_false]; rintro ⟨_, _, h⟩; exact hs32 h))
                  clear hmem hB hs32
                  go_wp2
                  go_ret
                  exact ⟨KH.ret_bool HF.out.symm, hb.alloc hszw _⟩
            · have HF : Hid (rightS l least = false) := right_bad HX.out (Or.inl (by unfold okS; rw [decide_eq_false]; rintro ⟨_, h, _⟩; exact hx2 h))
              clear hB
              go_wp2
              go_ret
              exact ⟨KH.ret_bool HF.out.symm, hb.alloc hszw _⟩
          · have HF : Hid (rightS l least = false) := right_bad HX.out (Or.inl (by unfold okS; rw [decide_eq_false]; rintro ⟨h, _, _⟩; exact hx1 h))
            clear hB
            go_wp2
            go_ret
            exact ⟨KH.ret_bool HF.out.symm, hb.alloc hszw _⟩
        · obtain rfl : k = n := by omega
          have HF : Hid (rightS l least = true) := by
            have h2 := HO.out
            rw [List.take_of_length_le (by have := HL.out; omega)] at h2
            unfold Hid rightS
            rw [h2.1, Bool.and_true, decide_eq_true]
            exact ⟨by have := HL.out; omega, by have := HL.out; omega, h2.2⟩
          clear hB
          go_wp2
          go_ret
          exact ⟨KH.ret_bool HF.out.symm, hb⟩
    · have HF : Hid (rightS l least = false) := by unfold Hid rightS; rw [decide_eq_false (by omega)]; rfl
      clear hl hsz
      go_enter Tryd.func21, Tryd.ntmps21
      go_wp2
      go_ret
      exact ⟨KH.ret_bool HF.out.symm, Below.refl _ _⟩
  · have HF : Hid (rightS l least = false) := by unfold Hid rightS; rw [decide_eq_false (by omega)]; rfl
    clear hl hsz
    go_enter Tryd.func21, Tryd.ntmps21
    go_wp2
    go_ret
    exact ⟨KH.ret_bool HF.out.symm, Below.refl _ _⟩

/-- the places so far -/
def plc (l : List (Int × ByteArray)) (k : Nat) : List Int := (List.range l.length).map fun j => if j < k then (l.map (·.1)).getD j 0 else 0
theorem plc_zero (l : List (Int × ByteArray)) : (plc l 0).map (Value.int .i64) = List.replicate l.length (.int .i64 0) := by
  refine List.ext_getElem (by simp [plc]) fun j h1 h2 => ?_
  simp [plc]
theorem plc_all (l : List (Int × ByteArray)) : plc l l.length = l.map (·.1) := by
  refine List.ext_getElem (by simp [plc]) fun j h1 h2 => ?_
  have hj : j < l.length := by simpa using h2
  simp only [plc, List.getElem_map, List.getElem_range]
  rw [if_pos hj, List.getD, List.getElem?_map, List.getElem?_eq_getElem hj]; rfl
theorem plc_step {l : List (Int × ByteArray)} {k : Nat} {x : Int} {b : ByteArray} (h : l[k]? = some (x, b)) : ((plc l k).map (Value.int .i64)).set k (.int .i64 x) = (plc l (k + 1)).map (Value.int .i64) := by
  refine List.ext_getElem (by simp [plc]) fun j h1 h2 => ?_
  rw [List.getElem_set]
  by_cases e : k = j
  · subst e
    rw [if_pos rfl]
    simp only [plc, List.getElem_map, List.getElem_range]
    rw [if_pos (by omega), List.getD, List.getElem?_map, h]; rfl
  · rw [if_neg e]
    simp only [plc, List.getElem_map, List.getElem_range]
    by_cases hl : j < k
    · rw [if_pos hl, if_pos (by omega)]
    · rw [if_neg hl, if_neg (by omega)]

set_option maxRecDepth 100000 in
theorem places_any {n : Nat} {A : Option Addr} (c : Nat) {l : List (Int × ByteArray)} {w : World} (h : ShIn w w.heap.size A n l) (hn : n ≤ 255) :
    Calls Tryd.prog 24 #[.slice A n c] w fun e w' => ∃ g, e = .returned (.slice (some ⟨g, 0, none⟩) n n) ∧ w'.ownsRow w.heap.size 3 1 (.slice (some ⟨g, 0, none⟩) n n) n ((l.map (·.1)).map (.int .i64)) ∧ Below w.heap.size w w' := by
  obtain ⟨i0, hi, hz0, hz1, hz2⟩ := info_parts int_info
  have hl := h.len
  have HL := KH.hid hl; clear hl
  go_enter Tryd.func24, Tryd.ntmps24
  go_wp2_with (at_make; refine wpList_make_full _ rfl _ _ 42 rfl w.heap.size 3 i0 (.int .i64 0) 1 Tryd.underlying42 hi hz0 hz1 .i64 .i64 _ _ n rfl rfl rfl rfl (by rw [hz2]; omega) (by unfold maxLen; omega) (Nat.le_refl _) ?_; intro w3 hown3 hg3)
  have hb3 : Below w.heap.size w w3 := (Below.refl _ _).grown hg3 (Nat.le_refl _) (fun _ h => by cases h)
  rw [show (madeCells (Value.int .i64 0).cells (n * 1)).toList = (plc l 0).map (Value.int .i64) by rw [plc_zero, Nat.mul_one, HL.out]; exact toList_madeCells_one _ _] at hown3
  clear hg3
  go_loopw [11] (fun i wr => ∃ k : Nat, k ≤ n ∧ i = .int .i64 k ∧ wr.ownsRow w.heap.size 3 1 (.slice (some ⟨w.heap.size, 0, none⟩) n n) n ((plc l k).map (.int .i64)) ∧ Below w.heap.size w wr) (fun i _ => n - (intOf i).toNat)
  case atStart => exact ⟨0, Nat.zero_le _, rfl, hown3, hb3⟩
  case round =>
    obtain ⟨k, hk, rfl, hown, hb⟩ := hrel
    clear hown3 hb3
    have hsz := hb.size
    by_cases hlt : k < n
    · have hIn : ShIn wr w.heap.size A n l := KH.Reads.below h hb
      obtain ⟨ad, x, b, rfl, hab, hx, hc1, hc2⟩ := hIn.at_ hlt
      have HS := KH.hid (plc_step hx)
      clear hx
      have hoA := hown.alloc (.cells #[.int .i64 x, .string b] 36)
      obtain ⟨u, hu⟩ : ∃ u, ((plc l k).map (Value.int .i64))[k]? = some u := ⟨_, List.getElem?_eq_getElem (by simp [plc]; have := HL.out; omega)⟩
      have hl7 := (hoA.cellAt k (by omega)).trans hu
      have hf7 := hoA.frozenAt k
      have HO := KH.hid ((hown.stored k (.int .i64 x)).1.alloc (.cells #[.int .i64 x, .string b] 36))
      have HB := KH.hid ((hb.setCell (p := ⟨w.heap.size, k, none⟩) (Nat.le_refl _) (.int .i64 x)).alloc (by simpa [World.setCell] using hsz) (.cells #[.int .i64 x, .string b] 36))
      have hgs : w.heap.size < wr.heap.size := (hown.lt w.heap.size rfl).2
      clear hoA hown hu hb
      go_wp2
      go_roundw
      case rel => exact ⟨k + 1, by omega, by go_num, by rw [← HS.out]; exact HO.out, HB.out⟩
      case measure => simp [intOf]; omega
    · obtain rfl : k = n := by omega
      rw [show plc l k = l.map (·.1) by rw [← plc_all, HL.out]] at hown
      go_wp2
      go_ret
      exact ⟨_, rfl, hown, hb⟩
end Go.Proofs.YtdeoibgedjbeiaaDoor
