/- An argument that is a row of shares; Big, Own; the plain law of the order. -/
import Derived.Test.YtdeoibgedjbeiaaDoorShareJ
import Derived.Deep.SlicePairs
namespace Go.Proofs.YtdeoibgedjbeiaaDoor
open Go.RowKit Go.ChangeShapes Go.WideShapes Go.Deep

theorem shin_of {w : World} {a : Addr} {l : List (Int × ByteArray)} {B : Nat} (hB : 0 < l.length → a.block < B) (h : ∀ i x b, l[i]? = some (x, b) → w.cell? (a.add (i * 2)) = some (.int .i64 x) ∧ w.cell? (a.add (i * 2 + 1)) = some (.string b)) :
    ShIn w B (some a) l.length l := by
  refine ⟨shC_length l, fun hn => ⟨a, rfl, hB hn, fun j u hu => ?_⟩⟩
  have hj : j < (shC l).length := by
    rcases Nat.lt_or_ge j (shC l).length with h' | h'
    · exact h'
    · rw [List.getElem?_eq_none h'] at hu; cases hu
  rw [shC_length] at hj
  obtain ⟨p, hp⟩ : ∃ p, l[j / 2]? = some p := ⟨_, List.getElem?_eq_getElem (by omega)⟩
  obtain ⟨x, b⟩ := p
  obtain ⟨g1, g2⟩ := shC_get hp
  obtain ⟨c1, c2⟩ := h _ _ _ hp
  rcases Nat.mod_two_eq_zero_or_one j with e | e
  · rw [show j / 2 * 2 = j by omega] at g1 c1
    rw [hu] at g1; injection g1 with g1; rw [c1, g1]
  · rw [show j / 2 * 2 + 1 = j by omega] at g2 c2
    rw [hu] at g2; injection g2 with g2; rw [c2, g2]

/-- a slice of shares that came in -/
def SharesIn (w : World) (a : Option Addr) (n c : Nat) (l : List (Int × ByteArray)) : Prop :=
  (∀ p ∈ l, p.2.size ≤ maxLen) ∧ n ≤ c ∧ c ≤ maxLen ∧ (a = none → n = 0 ∧ c = 0) ∧ ShIn w w.heap.size a n l

def strOf : Value → ByteArray
  | .string s => s
  | _ => ⟨#[]⟩

theorem shares_in {H : Type} {enc : TypeId × Value → H} {W : World} {a : Option Addr} {len cap : Nat} {d : DataW H} {p : List MemPlace}
    (h : DataW.Trod enc Tryd.prog W 0 (fun _ => true) true 29 (.slice a len cap) d p) : ∃ zs, SharesIn W a len cap zs := by
  obtain ⟨fuel, hf⟩ := h
  rcases open_slice_pairs Tryd.underlying29 Tryd.underlying36 (by kernel_rfl) rfl rfl (by kernel_rfl) (by kernel_rfl) hf with ⟨hcs, _⟩ | ⟨x, l, c, m, n, V0, V1, D0, D1, P0, P1, hcs, _, hl, hm, hz, _, hcell⟩
  · simp [Value.cells] at hcs
    obtain ⟨rfl, rfl, rfl⟩ := hcs
    exact ⟨[], by simp, Nat.le_refl _, by unfold maxLen; omega, fun _ => ⟨rfl, rfl⟩, KH.Reads.none_⟩
  · simp [Value.cells] at hcs
    obtain ⟨rfl, rfl, rfl⟩ := hcs
    simp only [if_true] at hz
    have key : ∀ i, i < len → W.cell? (x.add (i * 2)) = some (.int .i64 (intOf (V0 i))) ∧ W.cell? (x.add (i * 2 + 1)) = some (.string (strOf (V1 i))) ∧ (strOf (V1 i)).size ≤ maxLen := fun i hi => by
      obtain ⟨h1, h2, h3, h4⟩ := hcell i (by omega)
      obtain ⟨z, hz, _, hw⟩ := DataW.trod_int Tryd.underlying3 h3
      obtain ⟨s, hs, _, hsz⟩ := DataW.trod_string Tryd.underlying9 h4
      injection hz with hz; injection hs with hs
      rw [h1, h2, hz, hs]
      exact ⟨rfl, rfl, hsz⟩
    refine ⟨(List.range len).map fun i => (intOf (V0 i), strOf (V1 i)), fun p hp => ?_, hl, hm, (fun h => by cases h), ?_⟩
    · obtain ⟨i, hi, rfl⟩ := List.mem_map.1 hp
      exact (key i (List.mem_range.1 hi)).2.2
    · have hin := shin_of (w := W) (a := x) (l := (List.range len).map fun i => (intOf (V0 i), strOf (V1 i))) (B := W.heap.size) (fun h0 => by
        have h0' : 0 < len := by simpa using h0
        have := World.block_lt_of_cell? _ _ (key 0 h0').1
        rwa [KH.block_of_add] at this) (fun i y b hi => by
        rw [List.getElem?_map] at hi
        have hil : i < len := by
          rcases Nat.lt_or_ge i len with h' | h'
          · exact h'
          · rw [List.getElem?_eq_none (by simpa using h')] at hi; cases hi
        rw [List.getElem?_range hil] at hi
        injection hi with hi; injection hi with e1 e2
        subst e1; subst e2
        exact ⟨(key i hil).1, (key i hil).2.1⟩)
      simpa using hin

/-! ### Big -/
def bigL (n : Nat) : Bool := decide (8 < n ∧ n ≤ 255 ∨ 300 < n)
def bigS (l : List (Int × ByteArray)) : Bool := bigL l.length || l.any fun p => decide (100 < p.2.size)

/-! ### Own -/
/-! ### The plain law -/
theorem right_rev (l : List (Int × ByteArray)) (m : Int) : rightS l.reverse m = rightS l m := by
  have key : ∀ l : List (Int × ByteArray), rightS l m = true → rightS l.reverse m = true := fun l h => by
    obtain ⟨h1, h2, h3, h4⟩ := rightS_iff.1 h
    refine rightS_iff.2 ⟨by rw [List.length_reverse]; exact h1, by rw [List.length_reverse]; exact h2, by rw [List.map_reverse]; exact (List.reverse_perm _).nodup_iff.2 h3, fun p hp => h4 p (List.mem_reverse.1 hp)⟩
  rcases h : rightS l m with _ | _
  · rcases h' : rightS l.reverse m with _ | _
    · rfl
    · have := key _ h'; rw [List.reverse_reverse, h] at this; cases this
  · exact key l h
/-- the polynomial of a byte -/
theorem at_ev {l : List (Int × ByteArray)} (h : rightS l 0 = true) (j : Nat) : ∃ P, KH.Dg P ∧ P.length = l.length ∧ (∀ x, x < 256 → atF l x l.length j = KH.ev P x) ∧ ∀ p ∈ l, sb p.2 j = KH.ev P p.1.toNat := by
  obtain ⟨hd, hn⟩ := right_dg h
  obtain ⟨P, h1, h2, h3, h4⟩ := KH.th_ev hd hn (ysN_dg l j)
  rw [xsN_length] at h2 h3 h4
  refine ⟨P, h1, h2, h3, fun p hp => ?_⟩
  obtain ⟨i, hi, rfl⟩ := List.mem_iff_getElem.1 hp
  have hg : l[i]? = some l[i] := List.getElem?_eq_getElem hi
  have := h4 i hi
  rw [ysN_get hg, xsN_get hg] at this
  exact this
theorem at_same {l m : List (Int × ByteArray)} (h : rightS l 0 = true) (h' : rightS m 0 = true) (hl : l.length ≤ m.length) (hm : ∀ p ∈ m, p ∈ l ∨ ∃ x < 256, p.1.toNat = x ∧ ∀ j < 32, sb p.2 j = atF l x l.length j) {x : Nat} (hx : x < 256) {j : Nat} (hj : j < 32) : atF m x m.length j = atF l x l.length j := by
  obtain ⟨P, h1, h2, h3, h4⟩ := at_ev h j
  rw [h3 x hx]
  refine at_poly h' h1 (by omega) (fun p hp => ?_) hx
  rcases hm p hp with g | ⟨y, hy, g1, g2⟩
  · exact h4 p g
  · rw [g2 j hj, h3 y hy, g1]
theorem atE_of {l : List (Int × ByteArray)} {x : Int} (h : rightS l 0 = true) (hx : dgB x = true) : atE l x = 0 := by unfold atE; rw [h, hx]; rfl
theorem atV_of {l : List (Int × ByteArray)} {x : Int} (h : rightS l 0 = true) (hx : dgB x = true) : atV l x = tx 32 (atF l x.toNat l.length) := by unfold atV; rw [h, hx]; rfl
theorem atE_ok {l : List (Int × ByteArray)} {x : Int} (h : atE l x = 0) : rightS l 0 = true ∧ dgB x = true := by
  unfold atE at h
  cases h1 : rightS l 0
  · rw [h1] at h; simp at h
  · rw [h1] at h
    cases h2 : dgB x
    · rw [h2] at h; simp at h
    · exact ⟨rfl, rfl⟩
theorem order_no {l : List (Int × ByteArray)} {x : Int} (h : atE l x ≠ 0) : atV l x = ⟨#[]⟩ ∧ (atE l x = 1 ∨ atE l x = 90) := by
  unfold atE atV at *
  cases h1 : rightS l 0
  · exact ⟨rfl, .inr rfl⟩
  · rw [h1] at h
    cases h2 : dgB x
    · exact ⟨rfl, .inl rfl⟩
    · rw [h2] at h; exact absurd rfl h
theorem order_rev {l : List (Int × ByteArray)} {x : Int} : atE l.reverse x = atE l x ∧ atV l.reverse x = atV l x := by
  refine ⟨by unfold atE; rw [right_rev], ?_⟩
  unfold atV
  rw [right_rev]
  cases hk : rightS l 0 && dgB x
  · rfl
  · rw [Bool.and_eq_true] at hk
    have hx := dgB_iff.1 hk.2
    rw [if_pos rfl, if_pos rfl]
    refine tx_congr fun o ho => ?_
    refine at_same hk.1 (by rw [right_rev]; exact hk.1) (by rw [List.length_reverse]; omega) (fun p hp => .inl (List.mem_reverse.1 hp)) (by omega) ho
theorem order_there {l : List (Int × ByteArray)} {x : Int} (h : atE l x = 0) {b : ByteArray} (hb : (x, b) ∈ l) : atV l x = b := by
  obtain ⟨hr, hd⟩ := atE_ok h
  have hx := dgB_iff.1 hd
  rw [atV_of hr hd]
  have hsz : b.size = 32 := ((rightS_iff.1 hr).2.2.2 _ hb).2.2
  rw [tx_congr (G := sb b) fun o ho => ?_]
  · exact tx_self hsz
  · obtain ⟨P, _, _, h3, h4⟩ := at_ev hr o
    rw [h3 _ (by omega)]
    exact (h4 _ hb).symm
theorem order_more {l : List (Int × ByteArray)} {x : Int} (h : atE l x = 0) (hx : x ∉ l.map (·.1)) (hl : l.length + 1 ≤ 255) : atE l 7 = 0 ∧ atE (l ++ [(x, atV l x)]) 7 = 0 ∧ atV (l ++ [(x, atV l x)]) 7 = atV l 7 := by
  obtain ⟨hr, hd⟩ := atE_ok h
  have hx' := dgB_iff.1 hd
  obtain ⟨r1, r2, r3, r4⟩ := rightS_iff.1 hr
  have hv := atV_of hr hd
  have hr' : rightS (l ++ [(x, atV l x)]) 0 = true := by
    refine rightS_iff.2 ⟨by simp, by simpa using hl, ?_, fun p hp => ?_⟩
    · rw [List.map_append, List.nodup_append]
      refine ⟨r3, by simp, fun a ha b hb => ?_⟩
      simp at hb
      subst hb
      rintro rfl
      exact hx ha
    · rcases List.mem_append.1 hp with hp | hp
      · exact r4 p hp
      · simp at hp; subst hp
        refine ⟨by omega, by omega, ?_⟩
        show (atV l x).size = 32
        rw [hv, tx_size]
  have h7 : dgB 7 = true := by decide
  refine ⟨atE_of hr h7, atE_of hr' h7, ?_⟩
  rw [atV_of hr' h7, atV_of hr h7]
  refine tx_congr fun o ho => ?_
  refine at_same hr hr' (by simp) (fun p hp => ?_) (by decide) ho
  rcases List.mem_append.1 hp with hp | hp
  · exact .inl hp
  · simp at hp; subst hp
    refine .inr ⟨x.toNat, by omega, rfl, fun j hj => ?_⟩
    show sb (atV l x) j = _
    rw [hv, tx_sb (fun o _ => atF_lt _ _ _ _) hj]
end Go.Proofs.YtdeoibgedjbeiaaDoor
