import Derived.Test.YtlnilfcjcoclhaaGreatDoorBa
import Derived.Deep.MidRow
import Derived.Deep.AppendLies
import Derived.Deep.DrawnRows
import Derived.Deep.SlicePairs
import Derived.Deep.DeepCutAuto
/- Lines of 32 bytes: their text, their sums with a text. -/
namespace Go.Proofs.YtlnilfcjcoclhaaGreatDoor
open Go.RowKit

/-- N cells of bytes -/
def bl (N : Nat) (F : Nat → Nat) : List Value := (List.range N).map fun o => .int .u8 (F o : Nat)
theorem bl_length (N : Nat) (F : Nat → Nat) : (bl N F).length = N := by simp [bl]
theorem bl_size (N : Nat) (F : Nat → Nat) : (bl N F).toArray.size = N := by simp [bl]
theorem bl_get {N o : Nat} (F : Nat → Nat) (h : o < N) : (bl N F)[o]? = some (.int .u8 (F o : Nat)) := by
  unfold bl; rw [List.getElem?_map, List.getElem?_range h]; rfl
theorem bl_congr {N : Nat} {F G : Nat → Nat} (h : ∀ o, o < N → F o = G o) : bl N F = bl N G := by
  unfold bl; refine List.map_congr_left fun o ho => ?_; rw [h o (List.mem_range.1 ho)]
theorem bl_set {N o v : Nat} (F : Nat → Nat) : (bl N F).set o (.int .u8 (v : Nat)) = bl N fun p => if p = o then v else F p := by
  refine List.ext_getElem (by simp [bl]) fun j h1 h2 => ?_
  rw [List.getElem_set]
  by_cases e : o = j
  · subst e; simp [bl]
  · rw [if_neg e]; simp only [bl, List.getElem_map, List.getElem_range]; rw [if_neg (fun h => e h.symm)]
theorem bl_one {N : Nat} {F : Nat → Nat} : ∀ v ∈ bl N F, v.oneCell' = true := by
  intro v hv; unfold bl at hv; obtain ⟨o, _, rfl⟩ := List.mem_map.1 hv; rfl

/-- the text of N bytes -/
def tx (N : Nat) (F : Nat → Nat) : ByteArray := strOfNums ((List.range N).map fun o => ((F o : Nat) : Int))
theorem tx_size (N : Nat) (F : Nat → Nat) : (tx N F).size = N := by unfold tx; rw [strOfNums_size]; simp
theorem tx_sb {N : Nat} {F : Nat → Nat} (hF : ∀ o, o < N → F o < 256) {o : Nat} (h : o < N) : sb (tx N F) o = F o := by
  unfold sb tx
  rw [strOfNums_data, List.getD, List.getElem?_map, List.getElem?_map, List.getElem?_range h]
  show (UInt8.ofNat ((F o : Int)).toNat).toNat = F o
  rw [Int.toNat_natCast, UInt8.toNat_ofNat']
  exact Nat.mod_eq_of_lt (hF o h)
theorem sb_ext {s t : ByteArray} (hs : s.size = t.size) (h : ∀ o, o < s.size → sb s o = sb t o) : s = t := by
  apply ByteArray.ext
  apply Array.toList_inj.1
  refine List.ext_getElem (by simpa using hs) fun j h1 h2 => ?_
  have := h j (by simpa using h1)
  unfold sb at this
  rw [List.getD, List.getD, List.getElem?_eq_getElem h1, List.getElem?_eq_getElem h2] at this
  exact UInt8.toNat_inj.1 this

/-- a line as a value -/
def ln (F : Nat → Nat) : Value := .agg (bl 32 F).toArray

theorem zlit : (#[.int .u8 0, .int .u8 0, .int .u8 0, .int .u8 0, .int .u8 0, .int .u8 0, .int .u8 0, .int .u8 0, .int .u8 0, .int .u8 0, .int .u8 0, .int .u8 0, .int .u8 0, .int .u8 0, .int .u8 0, .int .u8 0, .int .u8 0, .int .u8 0, .int .u8 0, .int .u8 0, .int .u8 0, .int .u8 0, .int .u8 0, .int .u8 0, .int .u8 0, .int .u8 0, .int .u8 0, .int .u8 0, .int .u8 0, .int .u8 0, .int .u8 0, .int .u8 0] : Array Value) = (bl 32 fun _ => 0).toArray := by kernel_rfl

theorem results_cell {P : Program} {fn : Func} {a : Nat} {t : TypeId} {v : Value} {tmps : Array Value} {w : World} {p : Addr} (h : fn.results = #[.cell a t]) (ha : tmps.getD a undef = .pointer (some p)) (hl : (loadVar t p).run P w = .ok v w) :
    (results fn tmps).run P w = .ok v w := by
  unfold results
  rw [h]
  rw [Array.getD_eq_getD_getElem?] at ha
  simp [loadVar, go_sem] at hl
  simp [ha, asAddr, go_sem]
  exact hl

theorem below_setCells {B b : Nat} {a : World} (hB : B ≤ b) : ∀ (vs : List Value) (o : Nat) (w : World), Below B a w → Below B a (w.setCells b o vs)
  | [], _, _, h => h
  | v :: r, o, w, h => by
    rw [World.setCells]
    exact below_setCells hB r (o + 1) _ (h.setCell (p := ⟨b, o, none⟩) hB v)

/-- what stands in a line's block after k rounds of plus -/
def plusF (F : Nat → Nat) (s : ByteArray) (k : Nat) (o : Nat) : Nat := if o < k then F o ^^^ sb s o else F o

end Go.Proofs.YtlnilfcjcoclhaaGreatDoor
/- Shares as they lie in memory; which are right; their places. -/
namespace Go.Proofs.YtlnilfcjcoclhaaGreatDoor
open Go.RowKit

theorem addr_next (a : Addr) (m j : Nat) (hj : j ≠ 0) : (⟨(a.add m).block, (a.add m).off + j, none⟩ : Addr) = a.add (m + j) := by
  unfold Addr.add
  by_cases h : m = 0
  · subst h; rw [if_pos rfl, if_neg (by omega), Nat.zero_add]
  · rw [if_neg h, if_neg (by omega)]; simp only []; congr 1; omega

/-- the cells of shares -/
def shC (l : List (Int × ByteArray)) : List Value := l.flatMap fun p => [.int .i64 p.1, .string p.2]
theorem shC_length (l : List (Int × ByteArray)) : (shC l).length = l.length * 2 := by
  induction l with
  | nil => rfl
  | cons p l ih => show (shC l).length + 2 = _; rw [ih]; simp; omega
theorem shC_get {l : List (Int × ByteArray)} {k : Nat} {x : Int} {b : ByteArray} (h : l[k]? = some (x, b)) : (shC l)[k * 2]? = some (.int .i64 x) ∧ (shC l)[k * 2 + 1]? = some (.string b) := by
  induction l generalizing k with
  | nil => cases h
  | cons p l ih =>
    cases k with
    | zero => injection h with h; subst h; exact ⟨rfl, rfl⟩
    | succ k =>
      have := ih (k := k) h
      rw [show (k + 1) * 2 = k * 2 + 1 + 1 by omega]
      exact this
/-- shares that lie there -/
def ShIn (w : World) (B : Nat) (A : Option Addr) (n : Nat) (l : List (Int × ByteArray)) : Prop := KH.Reads w B 2 A n (shC l)
theorem ShIn.len {w : World} {B n : Nat} {A : Option Addr} {l : List (Int × ByteArray)} (h : ShIn w B A n l) : l.length = n := by
  have := h.1; rw [shC_length] at this; omega
theorem ShIn.at_ {w : World} {B n : Nat} {A : Option Addr} {l : List (Int × ByteArray)} (h : ShIn w B A n l) {k : Nat} (hk : k < n) :
    ∃ ad x b, A = some ad ∧ ad.block < B ∧ l[k]? = some (x, b) ∧ w.cell? (ad.add (k * 2)) = some (.int .i64 x) ∧ w.cell? ⟨(ad.add (k * 2)).block, (ad.add (k * 2)).off + 1, none⟩ = some (.string b) := by
  obtain ⟨ad, hA, hb, hc⟩ := h.2 (by omega)
  have hl := h.len
  obtain ⟨p, hp⟩ : ∃ p, l[k]? = some p := ⟨_, List.getElem?_eq_getElem (by omega)⟩
  obtain ⟨x, b⟩ := p
  have := shC_get hp
  exact ⟨ad, x, b, hA, hb, hp, hc _ _ this.1, by rw [addr_next _ _ _ (by omega)]; exact hc _ _ this.2⟩

/-- is a share right? -/
def okS (least : Int) (p : Int × ByteArray) : Bool := decide (least ≤ p.1 ∧ p.1 ≤ 255 ∧ p.2.size = 32)
def rightS (l : List (Int × ByteArray)) (least : Int) : Bool := decide (1 ≤ l.length ∧ l.length ≤ 255 ∧ (l.map (·.1)).Nodup) && l.all (okS least)
/-- which places are there -/
def bb (S : List Int) : Array Value := ((List.range 256).map fun (o : Nat) => Value.bool (decide ((o : Int) ∈ S))).toArray
theorem bb_get (S : List Int) {x : Nat} (h : x < 256) : (bb S)[x]? = some (.bool (decide ((x : Int) ∈ S))) := by
  unfold bb; rw [List.getElem?_toArray, List.getElem?_map, List.getElem?_range h]; rfl
theorem bb_set (S : List Int) {x : Nat} : (bb S).setIfInBounds x (.bool true) = bb (S ++ [(x : Int)]) := by
  unfold bb
  rw [List.setIfInBounds_toArray]
  congr 1
  refine List.ext_getElem (by simp) fun j h1 h2 => ?_
  rw [List.getElem_set]
  by_cases e : x = j
  · subst e; rw [if_pos rfl]; simp
  · rw [if_neg e]; simp; omega

theorem right_step {l : List (Int × ByteArray)} {least : Int} {k : Nat} {p : Int × ByteArray} (hp : l[k]? = some p) (h1 : (l.take k).all (okS least) = true) (h2 : ((l.take k).map (·.1)).Nodup) (ho : okS least p = true) (hn : p.1 ∉ (l.take k).map (·.1)) :
    (l.take (k + 1)).all (okS least) = true ∧ ((l.take (k + 1)).map (·.1)).Nodup ∧ (l.take (k + 1)).map (·.1) = (l.take k).map (·.1) ++ [p.1] := by
  rw [List.take_add_one, hp]
  refine ⟨by simp [h1, ho], ?_, by simp⟩
  simp only [Option.toList_some, List.map_append, List.map_cons, List.map_nil]
  rw [List.nodup_append]
  refine ⟨h2, by simp, fun a ha b hb => ?_⟩
  simp at hb; subst hb
  rintro rfl; exact hn ha

theorem right_bad {l : List (Int × ByteArray)} {least : Int} {k : Nat} {p : Int × ByteArray} (hp : l[k]? = some p) (h : okS least p = false ∨ p.1 ∈ (l.take k).map (·.1)) : rightS l least = false := by
  unfold rightS
  rcases h with h | h
  · rw [Bool.and_eq_false_iff]; right
    rw [List.all_eq_false]
    exact ⟨p, List.mem_of_getElem? hp, by rw [h]; simp⟩
  · rw [Bool.and_eq_false_iff]; left
    rw [decide_eq_false_iff_not]
    rintro ⟨_, _, hn⟩
    have hk : k < l.length := by
      rcases Nat.lt_or_ge k l.length with h' | h'
      · exact h'
      · rw [List.getElem?_eq_none h'] at hp; cases hp
    obtain ⟨q, hq, hqp⟩ := List.mem_map.1 h
    obtain ⟨j, hj, rfl⟩ := List.mem_take_iff_getElem.1 hq
    have hp' := List.pairwise_iff_getElem.1 hn j k (by rw [List.length_map]; omega) (by rw [List.length_map]; omega) (by omega)
    rw [List.getElem_map, List.getElem_map] at hp'
    rw [List.getElem?_eq_getElem hk] at hp
    injection hp with hp
    rw [hp] at hp'
    exact hp' hqp

/-- the places so far -/
def plc (l : List (Int × ByteArray)) (k : Nat) : List Int := (List.range l.length).map fun j => if j < k then (l.map (·.1)).getD j 0 else 0
theorem plc_zero (l : List (Int × ByteArray)) : (plc l 0).map (Value.int .i64) = List.replicate l.length (.int .i64 0) := by
  refine List.ext_getElem (by simp [plc]) fun j h1 h2 => ?_
  simp [plc]
theorem plc_all (l : List (Int × ByteArray)) : plc l l.length = l.map (·.1) := by
  refine List.ext_getElem (by simp [plc]) fun j h1 h2 => ?_
  have hj : j < l.length := by simpa using h2
  simp only [plc, List.getElem_map, List.getElem_range]
  rw [if_pos hj, List.getD, List.getElem?_map, List.getElem?_eq_getElem hj]; rfl
theorem plc_step {l : List (Int × ByteArray)} {k : Nat} {x : Int} {b : ByteArray} (h : l[k]? = some (x, b)) : ((plc l k).map (Value.int .i64)).set k (.int .i64 x) = (plc l (k + 1)).map (Value.int .i64) := by
  refine List.ext_getElem (by simp [plc]) fun j h1 h2 => ?_
  rw [List.getElem_set]
  by_cases e : k = j
  · subst e
    rw [if_pos rfl]
    simp only [plc, List.getElem_map, List.getElem_range]
    rw [if_pos (by omega), List.getD, List.getElem?_map, h]; rfl
  · rw [if_neg e]
    simp only [plc, List.getElem_map, List.getElem_range]
    by_cases hl : j < k
    · rw [if_pos hl, if_pos (by omega)]
    · rw [if_neg hl, if_neg (by omega)]

end Go.Proofs.YtlnilfcjcoclhaaGreatDoor
/- share.Split: the digits of a byte's polynomial. -/
namespace Go.Proofs.YtlnilfcjcoclhaaGreatDoor
open Go.RowKit

/-- a byte's polynomial, with m digits of the tape -/
def rowL (secret tape : ByteArray) (j m : Nat) : List Int := ((sb secret j : Nat) : Int) :: (List.range m).map fun t => ((sb tape (32 * t + j) : Nat) : Int)
theorem rowL_length (secret tape : ByteArray) (j m : Nat) : (rowL secret tape j m).length = m + 1 := by simp [rowL]
theorem rowL_step (secret tape : ByteArray) (j m : Nat) : rowL secret tape j (m + 1) = rowL secret tape j m ++ [((sb tape (32 * m + j) : Nat) : Int)] := by
  unfold rowL; rw [List.range_succ, List.map_append]; rfl
theorem rowL_all (secret tape : ByteArray) (j m : Nat) : allB (rowL secret tape j m) = true := by
  rw [allB_iff]
  intro x hx
  rcases List.mem_cons.1 hx with rfl | hx
  · have := sb_lt secret j; omega
  · obtain ⟨t, _, rfl⟩ := List.mem_map.1 hx
    have := sb_lt tape (32 * t + j); omega

/-- what a share has at a byte -/
def shv (secret tape : ByteArray) (k i j : Nat) : Nat := KH.ev (nats (rowL secret tape j (k - 1))) (i + 1)
theorem shv_lt (secret tape : ByteArray) (k i j : Nat) : shv secret tape k i j < 256 := KH.ev_lt (dg_nats (rowL_all _ _ _ _)) _
/-- the shares of a secret -/
def splitL (secret tape : ByteArray) (n k : Nat) : List (Int × ByteArray) := (List.range n).map fun i => (((i + 1 : Nat) : Int), tx 32 (shv secret tape k i))
def splitK (secret : ByteArray) (n k : Int) (tape : ByteArray) : Bool := decide (secret.size = 32 ∧ 1 ≤ n ∧ n ≤ 255 ∧ 1 ≤ k ∧ k ≤ n ∧ (tape.size : Int) = 32 * (k - 1))
def splitV (secret : ByteArray) (n k : Int) (tape : ByteArray) : List (Int × ByteArray) := if splitK secret n k tape then splitL secret tape n.toNat k.toNat else []
def splitE (b : Bool) : Int := if b then 0 else 1
end Go.Proofs.YtlnilfcjcoclhaaGreatDoor
/- share.Split. -/
namespace Go.Proofs.YtlnilfcjcoclhaaGreatDoor
open Go.RowKit

theorem made_lines (n : Nat) : (madeCells (Value.agg (bl 32 fun _ => 0).toArray).cells (n * 32)).toList = bl (n * 32) fun _ => 0 := by
  refine List.ext_getElem (by simp [madeCells, bl]) fun j h1 h2 => ?_
  have h : j % 32 < 32 := Nat.mod_lt _ (by omega)
  simp [madeCells, bl, Value.cells, h]

/-- the bytes of the lines, when j bytes of all and i more are there -/
def lf (secret tape : ByteArray) (k j i o : Nat) : Nat := if o % 32 < j ∨ (o % 32 = j ∧ o / 32 < i) then shv secret tape k (o / 32) (o % 32) else 0
theorem lf_step (secret tape : ByteArray) (k j i N : Nat) (hj : j < 32) : (bl N (lf secret tape k j i)).set (i * 32 + j) (.int .u8 (shv secret tape k i j : Nat)) = bl N (lf secret tape k j (i + 1)) := by
  rw [bl_set]
  refine bl_congr fun o ho => ?_
  unfold lf
  by_cases e : o = i * 32 + j
  · subst e
    have h1 : (i * 32 + j) % 32 = j := by omega
    have h2 : (i * 32 + j) / 32 = i := by omega
    rw [if_pos rfl, h1, h2, if_pos (by omega)]
  · rw [if_neg e]
    by_cases h : o % 32 < j ∨ (o % 32 = j ∧ o / 32 < i)
    · rw [if_pos h, if_pos (by omega)]
    · rw [if_neg h, if_neg (by omega)]
theorem lf_next (secret tape : ByteArray) (k j n : Nat) : bl (n * 32) (lf secret tape k j n) = bl (n * 32) (lf secret tape k (j + 1) 0) := by
  refine bl_congr fun o ho => ?_
  unfold lf
  have h2 : o / 32 < n := by omega
  by_cases h : o % 32 < j ∨ (o % 32 = j ∧ o / 32 < n)
  · rw [if_pos h, if_pos (by omega)]
  · rw [if_neg h, if_neg (by omega)]

theorem lf_all (secret tape : ByteArray) (k o : Nat) : lf secret tape k 32 0 o = shv secret tape k (o / 32) (o % 32) := by
  unfold lf; rw [if_pos (Or.inl (Nat.mod_lt _ (by omega)))]
theorem reads_far {w : World} {B size n : Nat} {ad : Addr} {xs : List Value} (h : KH.Reads w B size (some ad) n xs) {p : Addr} (hp : p.block ≠ ad.block) (u : Value) : KH.Reads (w.setCell p u) B size (some ad) n xs := by
  refine ⟨h.1, fun hn => ?_⟩
  obtain ⟨ad', e, hb, hc⟩ := h.2 hn
  injection e with e
  subst e
  exact ⟨_, rfl, hb, fun j v hv => by
    rw [World.cell?_setCell_other _ _ _ _ (by intro e; apply hp; rw [e, KH.block_of_add])]; exact hc j v hv⟩

theorem shC_set (l : List (Int × ByteArray)) (k : Nat) (x : Int) (b : ByteArray) : shC (l.set k (x, b)) = ((shC l).set (k * 2) (.int .i64 x)).set (k * 2 + 1) (.string b) := by
  induction l generalizing k with
  | nil => rfl
  | cons p l ih =>
    cases k with
    | zero => rfl
    | succ k =>
      rw [show (k + 1) * 2 = k * 2 + 1 + 1 by omega]
      show Value.int .i64 p.1 :: .string p.2 :: shC (l.set k (x, b)) = _
      rw [ih]; rfl
/-- the shares, of which i are there -/
def spl (secret tape : ByteArray) (n k i : Nat) : List (Int × ByteArray) := (List.range n).map fun t => if t < i then (((t + 1 : Nat) : Int), tx 32 (shv secret tape k t)) else (0, ⟨#[]⟩)
theorem spl_length (secret tape : ByteArray) (n k i : Nat) : (spl secret tape n k i).length = n := by simp [spl]
theorem spl_step (secret tape : ByteArray) (n k i : Nat) : (spl secret tape n k i).set i (((i + 1 : Nat) : Int), tx 32 (shv secret tape k i)) = spl secret tape n k (i + 1) := by
  refine List.ext_getElem (by simp [spl]) fun j h1 h2 => ?_
  rw [List.getElem_set]
  by_cases e : i = j
  · subst e; rw [if_pos rfl]; simp only [spl, List.getElem_map, List.getElem_range]; rw [if_pos (by omega)]
  · rw [if_neg e]; simp only [spl, List.getElem_map, List.getElem_range]
    by_cases h : j < i
    · rw [if_pos h, if_pos (by omega)]
    · rw [if_neg h, if_neg (by omega)]
theorem spl_all (secret tape : ByteArray) (n k : Nat) : spl secret tape n k n = splitL secret tape n k := by
  unfold spl splitL
  refine List.map_congr_left fun t ht => ?_
  rw [if_pos (List.mem_range.1 ht)]
theorem shC_replicate (n : Nat) : shC (List.replicate n (0, ⟨#[]⟩)) = (madeCells (Value.agg #[.int .i64 0, .string ⟨#[]⟩]).cells (n * 2)).toList := by
  refine List.ext_getElem? fun j => ?_
  by_cases hj : j < n * 2
  · have hm : (madeCells (Value.agg #[.int .i64 0, .string ⟨#[]⟩]).cells (n * 2)).toList[j]? = some (if j % 2 = 0 then .int .i64 0 else .string ⟨#[]⟩) := by
      rw [List.getElem?_eq_getElem (by simp [madeCells]; exact hj)]
      simp [madeCells, Value.cells]
      rcases Nat.mod_two_eq_zero_or_one j with h | h <;> simp [h]
    rw [hm]
    have hr : (List.replicate n ((0 : Int), (⟨#[]⟩ : ByteArray)))[j / 2]? = some (0, ⟨#[]⟩) := by rw [List.getElem?_replicate, if_pos (by omega)]
    have := shC_get hr
    rcases Nat.mod_two_eq_zero_or_one j with h | h
    · rw [if_pos h, show j = j / 2 * 2 by omega]; exact this.1
    · rw [if_neg (by omega), show j = j / 2 * 2 + 1 by omega]; exact this.2
  · rw [List.getElem?_eq_none (by rw [shC_length]; simpa using hj), List.getElem?_eq_none (by simp [madeCells]; omega)]
theorem spl_zero (secret tape : ByteArray) (n k : Nat) : spl secret tape n k 0 = List.replicate n (0, ⟨#[]⟩) := by
  refine List.ext_getElem (by simp [spl]) fun j h1 h2 => ?_
  simp [spl]

end Go.Proofs.YtlnilfcjcoclhaaGreatDoor
/- share.At, share.Combine. -/
namespace Go.Proofs.YtlnilfcjcoclhaaGreatDoor
open Go.RowKit

theorem blk_setCells {g : Nat} {t : TypeId} : ∀ (vs : List Value) (o : Nat) (w : World) (cs : Array Value), KH.Blk w g t cs → o + vs.length ≤ cs.size →
    ∃ cs', KH.Blk (w.setCells g o vs) g t cs' ∧ cs'.size = cs.size ∧ ∀ i, cs'[i]? = if o ≤ i ∧ i < o + vs.length then vs[i - o]? else cs[i]?
  | [], o, w, cs, h, _ => ⟨cs, h, rfl, fun i => by rw [if_neg (by simp)]⟩
  | v :: r, o, w, cs, h, hl => by
    rw [List.length_cons] at hl
    rw [World.setCells]
    obtain ⟨cs', h1, h2, h3⟩ := blk_setCells r (o + 1) _ _ (h.set_ o v) (by simp; omega)
    refine ⟨cs', h1, by rw [h2]; simp, fun i => ?_⟩
    rw [h3 i, List.length_cons, Array.getElem?_setIfInBounds]
    by_cases e : i = o
    · subst e
      rw [if_neg (by omega), if_pos rfl, if_pos (by omega), if_pos (by omega), Nat.sub_self]; rfl
    · by_cases hi : o + 1 ≤ i ∧ i < o + 1 + r.length
      · rw [if_pos hi, if_pos (by omega), show i - o = (i - (o + 1)) + 1 by omega]; rfl
      · rw [if_neg hi, if_neg (fun h => e h.symm), if_neg (by omega)]
theorem blk_setCells_all {w : World} {g : Nat} {t : TypeId} {cs : Array Value} (h : KH.Blk w g t cs) (vs : List Value) (hl : vs.length = cs.size) : KH.Blk (w.setCells g 0 vs) g t vs.toArray := by
  obtain ⟨cs', h1, h2, h3⟩ := blk_setCells vs 0 w cs h (by omega)
  have : cs' = vs.toArray := by
    refine Array.ext_getElem? fun i => ?_
    rw [h3 i]
    have e : vs.toArray[i]? = vs[i]? := by simp
    rw [e]
    by_cases hi : i < vs.length
    · rw [if_pos (by omega), Nat.sub_zero]
    · rw [if_neg (by omega), Array.getElem?_eq_none (by omega), List.getElem?_eq_none (by omega)]
  rw [← this]; exact h1

/-- the places and the bytes of shares -/
def xsN (l : List (Int × ByteArray)) : List Nat := nats (l.map (·.1))
def ysN (l : List (Int × ByteArray)) (j : Nat) : List Nat := l.map fun p => sb p.2 j
/-- what is told at a place of k shares -/
def atF (l : List (Int × ByteArray)) (x k j : Nat) : Nat := KH.th (xsN l) (ysN l j) x k
theorem atF_lt (l : List (Int × ByteArray)) (x k j : Nat) : atF l x k j < 256 := KH.th_lt _ _ _ _
theorem xsN_length (l : List (Int × ByteArray)) : (xsN l).length = l.length := by unfold xsN; rw [nats_length, List.length_map]
theorem ysN_length (l : List (Int × ByteArray)) (j : Nat) : (ysN l j).length = l.length := by unfold ysN; rw [List.length_map]
theorem ysN_get {l : List (Int × ByteArray)} {k : Nat} {p : Int × ByteArray} (h : l[k]? = some p) (j : Nat) : (ysN l j).getD k 0 = sb p.2 j := by
  unfold ysN; rw [List.getD, List.getElem?_map, h]; rfl
theorem atF_step {l : List (Int × ByteArray)} {k : Nat} {p : Int × ByteArray} (h : l[k]? = some p) (x j : Nat) : atF l x (k + 1) j = atF l x k j ^^^ KH.mul (KH.wt (xsN l) k x l.length) (sb p.2 j) := by
  unfold atF
  show KH.th (xsN l) (ysN l j) x k ^^^ KH.mul ((ysN l j).getD k 0) (KH.wt (xsN l) k x (xsN l).length) = _
  rw [ysN_get h, xsN_length, KH.mul_comm]

theorem rightS_iff {l : List (Int × ByteArray)} {least : Int} : rightS l least = true ↔ 1 ≤ l.length ∧ l.length ≤ 255 ∧ (l.map (·.1)).Nodup ∧ ∀ p ∈ l, least ≤ p.1 ∧ p.1 ≤ 255 ∧ p.2.size = 32 := by
  unfold rightS okS
  simp only [Bool.and_eq_true, decide_eq_true_iff, List.all_eq_true]
  exact ⟨fun h => ⟨h.1.1, h.1.2.1, h.1.2.2, h.2⟩, fun h => ⟨⟨h.1, h.2.1, h.2.2.1⟩, h.2.2.2⟩⟩
theorem right_places {l : List (Int × ByteArray)} (h : rightS l 0 = true) : placesB (l.map (·.1)) = true := by
  obtain ⟨h1, h2, h3, h4⟩ := rightS_iff.1 h
  unfold placesB
  rw [Bool.and_eq_true, decide_eq_true_iff, List.length_map, allB_iff]
  refine ⟨⟨h1, h2, h3⟩, fun x hx => ?_⟩
  obtain ⟨p, hp, rfl⟩ := List.mem_map.1 hx
  exact ⟨(h4 p hp).1, (h4 p hp).2.1⟩

theorem bytes_sb {a : Nat} (ha : a < 256) {b : ByteArray} {o : Nat} (ho : o < b.size) : sb (bytesV (a : Int) b) o = KH.mul a (sb b o) := by
  have hd : dgB (a : Int) = true := dgB_iff.2 (by omega)
  unfold bytesV
  rw [hd, if_pos rfl, Int.toNat_natCast]
  have hm := mb_get a b o ho
  unfold sb at hm ⊢
  rw [strOfNums_data, List.getD, List.getElem?_map]
  rw [List.getD, List.getElem?_eq_getElem (by rw [mb_length]; exact ho)] at hm
  rw [List.getElem?_eq_getElem (by rw [mb_length]; exact ho)]
  have hol : o < (mb a b).length := by rw [mb_length]; exact ho
  show (UInt8.ofNat (((mb a b)[o]'hol).toNat)).toNat = _
  have hm' : (mb a b)[o]'hol = ((KH.mul a (b.data.toList.getD o 0).toNat : Nat) : Int) := hm
  rw [hm', Int.toNat_natCast, UInt8.toNat_ofNat']
  exact Nat.mod_eq_of_lt (KH.mul_lt _ _)
theorem bytes_size {a : Nat} (ha : a < 256) (b : ByteArray) : (bytesV (a : Int) b).size = b.size := by
  have hd : dgB (a : Int) = true := dgB_iff.2 (by omega)
  unfold bytesV
  rw [hd, if_pos rfl, strOfNums_size, mb_length]
theorem blk_range {w : World} {g N : Nat} {t : TypeId} {F : Nat → Nat} (h : KH.Blk w g t (bl N F).toArray) : w.rangeAt g 0 (bl N F) := fun j v hv => by
  rw [Nat.zero_add, h.cell j, List.getElem?_toArray]; exact hv
theorem blk_there {w : World} {g N : Nat} {t : TypeId} {F : Nat → Nat} (h : KH.Blk w g t (bl N F).toArray) : w.there g 0 N := fun j hj => by
  rw [Nat.zero_add]; exact ⟨by rw [h.cell j, List.getElem?_toArray, bl_get _ hj]; rfl, h.frozen j⟩

def atE (l : List (Int × ByteArray)) (x : Int) : Int := if rightS l 0 then if dgB x then 0 else 1 else 90
def atV (l : List (Int × ByteArray)) (x : Int) : ByteArray := if rightS l 0 && dgB x then tx 32 (atF l x.toNat l.length) else ⟨#[]⟩

def combK (l : List (Int × ByteArray)) : Bool := rightS l 1
def combV (l : List (Int × ByteArray)) : ByteArray := if combK l then tx 32 (atF l 0 l.length) else ⟨#[]⟩
def combE (l : List (Int × ByteArray)) : Int := if combK l then 0 else 90
theorem right_one {l : List (Int × ByteArray)} (h : rightS l 1 = true) : rightS l 0 = true := by
  obtain ⟨h1, h2, h3, h4⟩ := rightS_iff.1 h
  exact rightS_iff.2 ⟨h1, h2, h3, fun p hp => ⟨by have := (h4 p hp).1; omega, (h4 p hp).2⟩⟩

end Go.Proofs.YtlnilfcjcoclhaaGreatDoor
/- The document's Many, Same, row, Eval; the append of a share. -/
namespace KH
open Go Go.RowKit
/-- append of one element of two cells to a row of the call's own -/
theorem wpList_append_two {P : Program} {w : World} {ops : Array Oper} {rest : List Oper} {o : Oper} {a : Act} {Q : Exit → Act → World → Prop} (hgd : o.guard = none) (s x : Operand) (t : TypeId)
    (ho : o.op = .call { callee := .builtin .append, args := #[s, x], argTypes := #[t, t] })
    (base : Nat) (e : TypeId) (i : TypeInfo) (z : Value) (bytes : Nat) (ht : P.underlying t = some (.slice e)) (hi : P.info? e = some i) (hz : i.zero = some z)
    (hsize : i.size = 2) (hby : i.bytes = bytes) (hzs : z.cells.size = 2)
    (v : Value) (n : Nat) (xs : List Value) (hs : a.eval s = v) (hown : w.ownsRow base e 2 v n xs)
    (b c : Nat) (u1 u2 : Value) (hx : a.eval x = .slice (some ⟨b, 0, none⟩) 1 c) (hu1 : w.cell? ⟨b, 0, none⟩ = some u1) (hu2 : w.cell? ⟨b, 1, none⟩ = some u2) (h1 : u1.oneCell' = true) (h2 : u2.oneCell' = true)
    (h63 : n + 1 ≤ maxLen) (hbytes : (n + 1) * bytes ≤ 140737488355328) (hbase : base ≤ w.heap.size)
    (h : ∀ v' w', w'.ownsRow base e 2 v' (n + 1) (xs ++ [u1, u2]) → Below base w w' → wpList P ops Q rest (a.put o.dst v') w') : wpList P ops Q (o :: rest) a w := by
  refine Go.wpList_append_own w hgd s x t ho base e i z 2 bytes ht hi hz hsize hby hzs (by omega) v n xs hs hown ⟨b, 0, none⟩ 1 c [u1, u2] hx rfl ?_ ?_ h63 hbytes hbase fun v' w' h2 h3 _ => h v' w' h2 ((Below.refl _ _).grown h3 hbase fun k hk => (hown.lt k hk).1)
  · intro j q hj
    match j, hj with
    | 0, hj => simp at hj; subst hj; simpa [Addr.add] using hu1
    | 1, hj => simp at hj; subst hj; simpa [Addr.add] using hu2
  · intro q hq
    simp at hq
    rcases hq with rfl | rfl
    · exact h1
    · exact h2
end KH
namespace Go.Proofs.YtlnilfcjcoclhaaGreatDoor
open Go.RowKit

theorem bl_map (N : Nat) (F : Nat → Nat) : bl N F = ((List.range N).map fun o => ((F o : Nat) : Int)).map (Value.int .u8) := by simp [bl]

theorem bytes_ne {b b' : ByteArray} (h : b ≠ b') : (b.toList == b'.toList) = false := by
  rw [beq_eq_false_iff_ne]
  intro e
  apply h
  rw [ByteArray.toList_eq, ByteArray.toList_eq] at e
  exact ByteArray.ext (Array.toList_inj.1 e)
theorem shtake_eq {l m : List (Int × ByteArray)} {k : Nat} {x : Int × ByteArray} (h : l.take k = m.take k) (h1 : l[k]? = some x) (h2 : m[k]? = some x) : l.take (k + 1) = m.take (k + 1) := by
  rw [List.take_add_one, List.take_add_one, h, h1, h2]

end Go.Proofs.YtlnilfcjcoclhaaGreatDoor
/- The document's Split. -/
namespace Go.Proofs.YtlnilfcjcoclhaaGreatDoor
open Go.RowKit

theorem bl_snoc (k : Nat) (F : Nat → Nat) : bl (k + 1) F = bl k F ++ [.int .u8 (F k : Nat)] := by
  unfold bl; rw [List.range_succ, List.map_append]; rfl
theorem splitL_snoc (secret tape : ByteArray) (i k : Nat) : shC (splitL secret tape (i + 1) k) = shC (splitL secret tape i k) ++ [.int .i64 ((i : Int) + 1), .string (tx 32 (shv secret tape k i))] := by
  unfold splitL shC; rw [List.range_succ, List.map_append, List.flatMap_append]; rfl
theorem splitL_length (secret tape : ByteArray) (n k : Nat) : (splitL secret tape n k).length = n := by simp [splitL]

end Go.Proofs.YtlnilfcjcoclhaaGreatDoor
/- The document's rows of package share. -/
namespace Go.Proofs.YtlnilfcjcoclhaaGreatDoor
open Go.RowKit

def mny (c : Nat) : ByteArray := tx 32 fun _ => c
theorem mny_size (c : Nat) : (mny c).size = 32 := tx_size _ _
theorem row_split : splitK (mny 5) 3 2 (mny 2) = true ∧ splitV (mny 5) 3 2 (mny 2) = [(1, mny 7), (2, mny 1), (3, mny 3)] := by decide +kernel
theorem row_comb : combV [(1, mny 7), (3, mny 3)] = mny 5 ∧ combE [(1, mny 7), (3, mny 3)] = 0 := by decide +kernel
theorem row_none : combV [] = ⟨#[]⟩ ∧ combE [] = 90 := by decide +kernel

theorem shin_lit (w : World) (l : List (Int × ByteArray)) (t : TypeId) (g : Nat) (hg : w.heap.size = g) : ShIn (w.alloc (.cells (shC l).toArray t)) (g + 1) (some ⟨g, 0, none⟩) l.length l := by
  subst hg
  refine ⟨shC_length l, fun _ => ⟨_, rfl, by show w.heap.size < _; omega, fun j u hu => ?_⟩⟩
  have : (⟨w.heap.size, 0, none⟩ : Addr).add j = ⟨w.heap.size, j, none⟩ := by unfold Addr.add; split <;> simp_all
  rw [this, World.cell?_alloc_at _ _ _ _ rfl]
  simpa using hu

end Go.Proofs.YtlnilfcjcoclhaaGreatDoor
/- The chosen shares; texts held against one another. -/
namespace Go.Proofs.YtlnilfcjcoclhaaGreatDoor
open Go.RowKit

/-- what is unlike in two texts -/
def xbF (s t : ByteArray) (o : Nat) : Nat := sb s o ^^^ sb t o
theorem xbF_lt (s t : ByteArray) (o : Nat) : xbF s t o < 256 := KH.xor_lt (sb_lt _ _) (sb_lt _ _)
def xbS (s t : ByteArray) : ByteArray := tx (min s.size t.size) (xbF s t)

/-- the chosen of the first k shares -/
def chs (l : List (Int × ByteArray)) (wh : List Bool) : Nat → List (Int × ByteArray)
  | 0 => []
  | k + 1 => chs l wh k ++ if wh.getD k false then [l.getD k (0, ⟨#[]⟩)] else []
def chsL (l : List (Int × ByteArray)) (wh : List Bool) : List (Int × ByteArray) := chs l wh (min l.length wh.length)
theorem chs_le (l : List (Int × ByteArray)) (wh : List Bool) (k : Nat) : (chs l wh k).length ≤ k := by
  induction k with
  | zero => exact Nat.le_refl _
  | succ k ih => unfold chs; rw [List.length_append]; split <;> simp <;> omega
theorem shC_append (l m : List (Int × ByteArray)) : shC (l ++ m) = shC l ++ shC m := List.flatMap_append

theorem bool_at {w : World} {B n : Nat} {A : Option Addr} {l : List Bool} (h : KH.Reads w B 1 A n (l.map .bool)) {k : Nat} (hk : k < n) :
    ∃ ad x, A = some ad ∧ ad.block < B ∧ l[k]? = some x ∧ w.cell? (ad.add k) = some (.bool x) := by
  obtain ⟨ad, u, hA, hb, hx, hc⟩ := h.at_ hk
  rw [List.getElem?_map] at hx
  cases hl : l[k]? with
  | none => rw [hl] at hx; cases hx
  | some x => rw [hl] at hx; injection hx with hx; subst hx; exact ⟨ad, x, hA, hb, rfl, hc⟩

end Go.Proofs.YtlnilfcjcoclhaaGreatDoor
/- The plain laws of the statements on shares: any k tell all, sums. -/
namespace Go.Proofs.YtlnilfcjcoclhaaGreatDoor

theorem tx_congr {N : Nat} {F G : Nat → Nat} (h : ∀ o, o < N → F o = G o) : tx N F = tx N G := by
  unfold tx
  congr 1
  refine List.map_congr_left fun o ho => ?_
  rw [h o (List.mem_range.1 ho)]
theorem tx_self {s : ByteArray} {N : Nat} (h : s.size = N) : tx N (sb s) = s := by
  subst h
  refine sb_ext (tx_size _ _) fun o ho => ?_
  rw [tx_size] at ho
  exact tx_sb (fun o _ => sb_lt s o) ho

theorem chs_sub (l : List (Int × ByteArray)) (wh : List Bool) (k : Nat) (hk : k ≤ l.length) : (chs l wh k).Sublist (l.take k) := by
  induction k with
  | zero => exact List.Sublist.refl _
  | succ k ih =>
    unfold chs
    rw [List.take_add_one, List.getElem?_eq_getElem (by omega), List.getD, List.getD, List.getElem?_eq_getElem (show k < l.length by omega)]
    refine (ih (by omega)).append ?_
    split
    · exact List.Sublist.refl _
    · exact List.nil_sublist _
theorem chsL_sub (l : List (Int × ByteArray)) (wh : List Bool) : (chsL l wh).Sublist l :=
  (chs_sub l wh _ (Nat.min_le_left _ _)).trans (List.take_sublist _ _)

theorem splitL_mem {secret tape : ByteArray} {n k : Nat} {p : Int × ByteArray} (h : p ∈ splitL secret tape n k) : ∃ i, i < n ∧ p = (((i + 1 : Nat) : Int), tx 32 (shv secret tape k i)) := by
  unfold splitL at h
  obtain ⟨i, hi, rfl⟩ := List.mem_map.1 h
  exact ⟨i, List.mem_range.1 hi, rfl⟩
theorem splitL_get {secret tape : ByteArray} {n k i : Nat} (h : i < n) : (splitL secret tape n k)[i]? = some (((i + 1 : Nat) : Int), tx 32 (shv secret tape k i)) := by
  unfold splitL; rw [List.getElem?_map, List.getElem?_range h]; rfl
theorem splitL_nodup (secret tape : ByteArray) (n k : Nat) : ((splitL secret tape n k).map (·.1)).Nodup := by
  unfold splitL
  rw [List.map_map]
  refine List.pairwise_map.2 (List.nodup_range.imp fun {a b} hab e => hab ?_)
  have e' : ((a + 1 : Nat) : Int) = ((b + 1 : Nat) : Int) := e
  omega

/-- shares of one secret, some of them: right -/
theorem sub_right {secret tape : ByteArray} {n k : Nat} (hn : n ≤ 255) {c : List (Int × ByteArray)} (hc : c.Sublist (splitL secret tape n k)) (h1 : 1 ≤ c.length) : rightS c 1 = true := by
  refine rightS_iff.2 ⟨h1, by have := hc.length_le; rw [splitL_length] at this; omega, (splitL_nodup secret tape n k).sublist (hc.map _), fun p hp => ?_⟩
  obtain ⟨i, hi, rfl⟩ := splitL_mem (hc.subset hp)
  refine ⟨?_, ?_, tx_size _ _⟩
  · show (1 : Int) ≤ ((i + 1 : Nat) : Int); omega
  · show ((i + 1 : Nat) : Int) ≤ 255; omega

theorem right_dg {c : List (Int × ByteArray)} (h : rightS c 0 = true) : KH.Dg (xsN c) ∧ (xsN c).Nodup := by
  have hp := right_places h
  unfold placesB at hp
  rw [Bool.and_eq_true, decide_eq_true_iff] at hp
  exact ⟨dg_nats hp.2, nats_nodup hp.2 hp.1.2.2⟩
theorem ysN_dg (c : List (Int × ByteArray)) (j : Nat) : KH.Dg (ysN c j) := by
  intro a ha
  unfold ysN at ha
  obtain ⟨p, _, rfl⟩ := List.mem_map.1 ha
  exact sb_lt _ _
theorem xsN_get {c : List (Int × ByteArray)} {i : Nat} {p : Int × ByteArray} (h : c[i]? = some p) : (xsN c).getD i 0 = p.1.toNat := by
  unfold xsN nats; rw [List.getD, List.getElem?_map, List.getElem?_map, h]; rfl

/-- what goes through shares of one polynomial of at most as many digits is that polynomial -/
theorem at_poly {c : List (Int × ByteArray)} (h : rightS c 0 = true) {j : Nat} {l : List Nat} (hl : KH.Dg l) (hlen : l.length ≤ c.length) (hv : ∀ p ∈ c, sb p.2 j = KH.ev l p.1.toNat) {x : Nat} (hx : x < 256) : atF c x c.length j = KH.ev l x := by
  obtain ⟨hd, hn⟩ := right_dg h
  unfold atF
  have := KH.through hd hn (ysN_dg c j) hl (by rw [xsN_length]; exact hlen) (fun i hi => ?_) hx
  · rw [xsN_length] at this; exact this
  · rw [xsN_length] at hi
    have hg : c[i]? = some c[i] := List.getElem?_eq_getElem hi
    rw [ysN_get hg, xsN_get hg]
    exact hv _ (List.getElem_mem hi)

theorem row_dg (secret tape : ByteArray) (j m : Nat) : KH.Dg (nats (rowL secret tape j m)) := dg_nats (rowL_all _ _ _ _)
theorem row_zero (secret tape : ByteArray) (j m : Nat) : KH.ev (nats (rowL secret tape j m)) 0 = sb secret j := by
  unfold rowL nats
  show ((sb secret j : Nat) : Int).toNat ^^^ KH.mul 0 _ = _
  rw [KH.zero_mul, Nat.xor_zero, Int.toNat_natCast]

/-- any k of the shares, or more, tell each -/
theorem any_at {secret tape : ByteArray} {n k : Nat} (hk1 : 1 ≤ k) (hn : n ≤ 255) {c : List (Int × ByteArray)} (hc : c.Sublist (splitL secret tape n k)) (hkc : k ≤ c.length) {x j : Nat} (hx : x < 256) (hj : j < 32) :
    atF c x c.length j = KH.ev (nats (rowL secret tape j (k - 1))) x := by
  refine at_poly (right_one (sub_right hn hc (by omega))) (row_dg _ _ _ _) (by rw [nats_length, rowL_length]; omega) (fun p hp => ?_) hx
  obtain ⟨i, hi, rfl⟩ := splitL_mem (hc.subset hp)
  show sb (tx 32 (shv secret tape k i)) j = _
  rw [tx_sb (fun o _ => shv_lt _ _ _ _ _) hj]
  show KH.ev _ (i + 1) = KH.ev _ (((i + 1 : Nat) : Int)).toNat
  rw [Int.toNat_natCast]
theorem any_law {secret tape : ByteArray} {n k : Nat} (hs : secret.size = 32) (hk1 : 1 ≤ k) (hn : n ≤ 255) {c : List (Int × ByteArray)} (hc : c.Sublist (splitL secret tape n k)) (hkc : k ≤ c.length) :
    combV c = secret ∧ combE c = 0 ∧ ∀ i, i < n → atV c ((i + 1 : Nat) : Int) = tx 32 (shv secret tape k i) ∧ atE c ((i + 1 : Nat) : Int) = 0 := by
  have hr1 := sub_right hn hc (by omega)
  have hr0 := right_one hr1
  refine ⟨?_, ?_, fun i hi => ⟨?_, ?_⟩⟩
  · unfold combV combK
    rw [hr1, if_pos rfl, tx_congr (G := sb secret) fun o ho => ?_]
    · exact tx_self hs
    · rw [any_at hk1 hn hc hkc (by omega) ho, row_zero]
  · unfold combE combK; rw [hr1]; rfl
  · have hd : dgB ((i + 1 : Nat) : Int) = true := dgB_iff.2 (by omega)
    unfold atV
    rw [hr0, hd]
    show tx 32 _ = _
    rw [Int.toNat_natCast]
    refine tx_congr fun o ho => ?_
    rw [any_at hk1 hn hc hkc (by omega) ho]; rfl
  · have hd : dgB ((i + 1 : Nat) : Int) = true := dgB_iff.2 (by omega)
    unfold atE; rw [hr0, hd]; rfl

/-! ### Sums -/
theorem xbS_size {s t : ByteArray} (h : s.size = t.size) : (xbS s t).size = s.size := by unfold xbS; rw [tx_size, h, Nat.min_self]
theorem xbS_sb {s t : ByteArray} (h : s.size = t.size) {o : Nat} (ho : o < s.size) : sb (xbS s t) o = sb s o ^^^ sb t o := by
  unfold xbS
  rw [tx_sb (fun o _ => xbF_lt s t o) (by omega)]; rfl
theorem rows_zx {s t a b : ByteArray} (hs : s.size = 32) (ht : t.size = 32) {k : Nat} (ha : a.size = 32 * (k - 1)) (hb : b.size = 32 * (k - 1)) {j : Nat} (hj : j < 32) :
    nats (rowL (xbS s t) (xbS a b) j (k - 1)) = KH.zx (nats (rowL s a j (k - 1))) (nats (rowL t b j (k - 1))) := by
  have h1 : ∀ (u v : ByteArray), nats (rowL u v j (k - 1)) = sb u j :: (List.range (k - 1)).map fun q => sb v (32 * q + j) := fun u v => by
    unfold nats rowL
    rw [List.map_cons, Int.toNat_natCast, List.map_map]
    rfl
  rw [h1, h1, h1]
  show _ = (sb s j ^^^ sb t j) :: List.zipWith (· ^^^ ·) _ _
  rw [xbS_sb (by omega) (by omega)]
  congr 1
  refine List.ext_getElem (by simp) fun q h2 h3 => ?_
  have hq : q < k - 1 := by simpa using h2
  rw [List.getElem_map, List.getElem_range, List.getElem_zipWith, List.getElem_map, List.getElem_range, List.getElem_map, List.getElem_range]
  exact xbS_sb (by omega) (by omega)
theorem sums_shv {s t a b : ByteArray} (hs : s.size = 32) (ht : t.size = 32) {k : Nat} (ha : a.size = 32 * (k - 1)) (hb : b.size = 32 * (k - 1)) {i j : Nat} (hi : i < 255) (hj : j < 32) :
    shv (xbS s t) (xbS a b) k i j = shv s a k i j ^^^ shv t b k i j := by
  unfold shv
  rw [rows_zx hs ht ha hb hj, KH.ev_zx (row_dg _ _ _ _) (row_dg _ _ _ _) (by rw [nats_length, nats_length, rowL_length, rowL_length]) (by omega)]
theorem sums_text {s t a b : ByteArray} (hs : s.size = 32) (ht : t.size = 32) {k : Nat} (ha : a.size = 32 * (k - 1)) (hb : b.size = 32 * (k - 1)) {i : Nat} (hi : i < 255) :
    xbS (tx 32 (shv s a k i)) (tx 32 (shv t b k i)) = tx 32 (shv (xbS s t) (xbS a b) k i) := by
  show tx (min _ _) _ = _
  rw [tx_size, tx_size, Nat.min_self]
  refine tx_congr fun o ho => ?_
  unfold xbF
  rw [tx_sb (fun o _ => shv_lt _ _ _ _ _) ho, tx_sb (fun o _ => shv_lt _ _ _ _ _) ho, sums_shv hs ht ha hb hi ho]
theorem splitK_iff {secret tape : ByteArray} {n k : Int} : splitK secret n k tape = true ↔ secret.size = 32 ∧ 1 ≤ n ∧ n ≤ 255 ∧ 1 ≤ k ∧ k ≤ n ∧ (tape.size : Int) = 32 * (k - 1) := by unfold splitK; rw [decide_eq_true_iff]
theorem sums_K {s t a b : ByteArray} {n k : Int} (h1 : splitK s n k a = true) (h2 : splitK t n k b = true) : splitK (xbS s t) n k (xbS a b) = true := by
  obtain ⟨a1, a2, a3, a4, a5, a6⟩ := splitK_iff.1 h1
  obtain ⟨b1, b2, b3, b4, b5, b6⟩ := splitK_iff.1 h2
  refine splitK_iff.2 ⟨by rw [xbS_size (by omega)]; exact a1, a2, a3, a4, a5, ?_⟩
  rw [xbS_size (by omega)]; exact a6
end Go.Proofs.YtlnilfcjcoclhaaGreatDoor
/- An argument that is a row of shares; Big, Own; the plain law of the order. -/
namespace Go.Proofs.YtlnilfcjcoclhaaGreatDoor
open Go.RowKit Go.ChangeShapes Go.WideShapes Go.Deep

theorem shin_of {w : World} {a : Addr} {l : List (Int × ByteArray)} {B : Nat} (hB : 0 < l.length → a.block < B) (h : ∀ i x b, l[i]? = some (x, b) → w.cell? (a.add (i * 2)) = some (.int .i64 x) ∧ w.cell? (a.add (i * 2 + 1)) = some (.string b)) :
    ShIn w B (some a) l.length l := by
  refine ⟨shC_length l, fun hn => ⟨a, rfl, hB hn, fun j u hu => ?_⟩⟩
  have hj : j < (shC l).length := by
    rcases Nat.lt_or_ge j (shC l).length with h' | h'
    · exact h'
    · rw [List.getElem?_eq_none h'] at hu; cases hu
  rw [shC_length] at hj
  obtain ⟨p, hp⟩ : ∃ p, l[j / 2]? = some p := ⟨_, List.getElem?_eq_getElem (by omega)⟩
  obtain ⟨x, b⟩ := p
  obtain ⟨g1, g2⟩ := shC_get hp
  obtain ⟨c1, c2⟩ := h _ _ _ hp
  rcases Nat.mod_two_eq_zero_or_one j with e | e
  · rw [show j / 2 * 2 = j by omega] at g1 c1
    rw [hu] at g1; injection g1 with g1; rw [c1, g1]
  · rw [show j / 2 * 2 + 1 = j by omega] at g2 c2
    rw [hu] at g2; injection g2 with g2; rw [c2, g2]

/-- a slice of shares that came in -/
def SharesIn (w : World) (a : Option Addr) (n c : Nat) (l : List (Int × ByteArray)) : Prop :=
  (∀ p ∈ l, p.2.size ≤ maxLen) ∧ n ≤ c ∧ c ≤ maxLen ∧ (a = none → n = 0 ∧ c = 0) ∧ ShIn w w.heap.size a n l

def strOf : Value → ByteArray
  | .string s => s
  | _ => ⟨#[]⟩

/-! ### Big -/
def bigL (n : Nat) : Bool := decide (8 < n ∧ n ≤ 255 ∨ 300 < n)
def bigS (l : List (Int × ByteArray)) : Bool := bigL l.length || l.any fun p => decide (100 < p.2.size)

/-! ### Own -/
/-! ### The plain law -/
theorem right_rev (l : List (Int × ByteArray)) (m : Int) : rightS l.reverse m = rightS l m := by
  have key : ∀ l : List (Int × ByteArray), rightS l m = true → rightS l.reverse m = true := fun l h => by
    obtain ⟨h1, h2, h3, h4⟩ := rightS_iff.1 h
    refine rightS_iff.2 ⟨by rw [List.length_reverse]; exact h1, by rw [List.length_reverse]; exact h2, by rw [List.map_reverse]; exact (List.reverse_perm _).nodup_iff.2 h3, fun p hp => h4 p (List.mem_reverse.1 hp)⟩
  rcases h : rightS l m with _ | _
  · rcases h' : rightS l.reverse m with _ | _
    · rfl
    · have := key _ h'; rw [List.reverse_reverse, h] at this; cases this
  · exact key l h
/-- the polynomial of a byte -/
theorem at_ev {l : List (Int × ByteArray)} (h : rightS l 0 = true) (j : Nat) : ∃ P, KH.Dg P ∧ P.length = l.length ∧ (∀ x, x < 256 → atF l x l.length j = KH.ev P x) ∧ ∀ p ∈ l, sb p.2 j = KH.ev P p.1.toNat := by
  obtain ⟨hd, hn⟩ := right_dg h
  obtain ⟨P, h1, h2, h3, h4⟩ := KH.th_ev hd hn (ysN_dg l j)
  rw [xsN_length] at h2 h3 h4
  refine ⟨P, h1, h2, h3, fun p hp => ?_⟩
  obtain ⟨i, hi, rfl⟩ := List.mem_iff_getElem.1 hp
  have hg : l[i]? = some l[i] := List.getElem?_eq_getElem hi
  have := h4 i hi
  rw [ysN_get hg, xsN_get hg] at this
  exact this
theorem at_same {l m : List (Int × ByteArray)} (h : rightS l 0 = true) (h' : rightS m 0 = true) (hl : l.length ≤ m.length) (hm : ∀ p ∈ m, p ∈ l ∨ ∃ x < 256, p.1.toNat = x ∧ ∀ j < 32, sb p.2 j = atF l x l.length j) {x : Nat} (hx : x < 256) {j : Nat} (hj : j < 32) : atF m x m.length j = atF l x l.length j := by
  obtain ⟨P, h1, h2, h3, h4⟩ := at_ev h j
  rw [h3 x hx]
  refine at_poly h' h1 (by omega) (fun p hp => ?_) hx
  rcases hm p hp with g | ⟨y, hy, g1, g2⟩
  · exact h4 p g
  · rw [g2 j hj, h3 y hy, g1]
theorem atE_of {l : List (Int × ByteArray)} {x : Int} (h : rightS l 0 = true) (hx : dgB x = true) : atE l x = 0 := by unfold atE; rw [h, hx]; rfl
theorem atV_of {l : List (Int × ByteArray)} {x : Int} (h : rightS l 0 = true) (hx : dgB x = true) : atV l x = tx 32 (atF l x.toNat l.length) := by unfold atV; rw [h, hx]; rfl
theorem atE_ok {l : List (Int × ByteArray)} {x : Int} (h : atE l x = 0) : rightS l 0 = true ∧ dgB x = true := by
  unfold atE at h
  cases h1 : rightS l 0
  · rw [h1] at h; simp at h
  · rw [h1] at h
    cases h2 : dgB x
    · rw [h2] at h; simp at h
    · exact ⟨rfl, rfl⟩
theorem order_no {l : List (Int × ByteArray)} {x : Int} (h : atE l x ≠ 0) : atV l x = ⟨#[]⟩ ∧ (atE l x = 1 ∨ atE l x = 90) := by
  unfold atE atV at *
  cases h1 : rightS l 0
  · exact ⟨rfl, .inr rfl⟩
  · rw [h1] at h
    cases h2 : dgB x
    · exact ⟨rfl, .inl rfl⟩
    · rw [h2] at h; exact absurd rfl h
theorem order_rev {l : List (Int × ByteArray)} {x : Int} : atE l.reverse x = atE l x ∧ atV l.reverse x = atV l x := by
  refine ⟨by unfold atE; rw [right_rev], ?_⟩
  unfold atV
  rw [right_rev]
  cases hk : rightS l 0 && dgB x
  · rfl
  · rw [Bool.and_eq_true] at hk
    have hx := dgB_iff.1 hk.2
    rw [if_pos rfl, if_pos rfl]
    refine tx_congr fun o ho => ?_
    refine at_same hk.1 (by rw [right_rev]; exact hk.1) (by rw [List.length_reverse]; omega) (fun p hp => .inl (List.mem_reverse.1 hp)) (by omega) ho
theorem order_there {l : List (Int × ByteArray)} {x : Int} (h : atE l x = 0) {b : ByteArray} (hb : (x, b) ∈ l) : atV l x = b := by
  obtain ⟨hr, hd⟩ := atE_ok h
  have hx := dgB_iff.1 hd
  rw [atV_of hr hd]
  have hsz : b.size = 32 := ((rightS_iff.1 hr).2.2.2 _ hb).2.2
  rw [tx_congr (G := sb b) fun o ho => ?_]
  · exact tx_self hsz
  · obtain ⟨P, _, _, h3, h4⟩ := at_ev hr o
    rw [h3 _ (by omega)]
    exact (h4 _ hb).symm
theorem order_more {l : List (Int × ByteArray)} {x : Int} (h : atE l x = 0) (hx : x ∉ l.map (·.1)) (hl : l.length + 1 ≤ 255) : atE l 7 = 0 ∧ atE (l ++ [(x, atV l x)]) 7 = 0 ∧ atV (l ++ [(x, atV l x)]) 7 = atV l 7 := by
  obtain ⟨hr, hd⟩ := atE_ok h
  have hx' := dgB_iff.1 hd
  obtain ⟨r1, r2, r3, r4⟩ := rightS_iff.1 hr
  have hv := atV_of hr hd
  have hr' : rightS (l ++ [(x, atV l x)]) 0 = true := by
    refine rightS_iff.2 ⟨by simp, by simpa using hl, ?_, fun p hp => ?_⟩
    · rw [List.map_append, List.nodup_append]
      refine ⟨r3, by simp, fun a ha b hb => ?_⟩
      simp at hb
      subst hb
      rintro rfl
      exact hx ha
    · rcases List.mem_append.1 hp with hp | hp
      · exact r4 p hp
      · simp at hp; subst hp
        refine ⟨by omega, by omega, ?_⟩
        show (atV l x).size = 32
        rw [hv, tx_size]
  have h7 : dgB 7 = true := by decide
  refine ⟨atE_of hr h7, atE_of hr' h7, ?_⟩
  rw [atV_of hr' h7, atV_of hr h7]
  refine tx_congr fun o ho => ?_
  refine at_same hr hr' (by simp) (fun p hp => ?_) (by decide) ho
  rcases List.mem_append.1 hp with hp | hp
  · exact .inl hp
  · simp at hp; subst hp
    refine .inr ⟨x.toNat, by omega, rfl, fun j hj => ?_⟩
    show sb (atV l x) j = _
    rw [hv, tx_sb (fun o _ => atF_lt _ _ _ _) hj]
end Go.Proofs.YtlnilfcjcoclhaaGreatDoor
/- The walks of share.zeros and share.without. -/
namespace Go.Proofs.YtlnilfcjcoclhaaGreatDoor
open Go.RowKit

/-- digits as the program has them -/
def zi (l : List Nat) : List Int := l.map fun (d : Nat) => (d : Int)
theorem zi_length (l : List Nat) : (zi l).length = l.length := List.length_map _
theorem zi_get {l : List Nat} {k : Nat} (h : k < l.length) : (zi l)[k]? = some ((l.getD k 0 : Nat) : Int) := by
  unfold zi; rw [List.getElem?_map, List.getElem?_eq_getElem h, List.getD, List.getElem?_eq_getElem h]; rfl

/-! ### zeros -/
theorem ml_get (L : List Nat) (a j : Nat) (hj : j ≤ L.length) : (KH.ml L a).getD j 0 = KH.mul a (L.getD j 0) ^^^ (0 :: L).getD j 0 := by
  unfold KH.ml KH.zx KH.sc
  rw [List.getD, List.getElem?_zipWith]
  have h2 : (0 :: L)[j]? = some ((0 :: L).getD j 0) := by rw [List.getD, List.getElem?_eq_getElem (by simp; omega)]; rfl
  rw [h2]
  rcases Nat.lt_or_ge j L.length with h | h
  · rw [List.getElem?_append_left (by simpa using h), List.getElem?_map, List.getElem?_eq_getElem h, KH.getD_eq h]; rfl
  · obtain rfl : j = L.length := by omega
    rw [List.getElem?_append_right (by simp)]
    have : L.getD L.length 0 = 0 := by rw [List.getD, List.getElem?_eq_none (Nat.le_refl _)]; rfl
    rw [this, KH.mul_zero]
    simp
def zst (L : List Nat) (x q : Nat) : List Int := (List.range (L.length + 1)).map fun j => if j < q then (((KH.ml L x).getD j 0 : Nat) : Int) else (((0 :: L).getD j 0 : Nat) : Int)
theorem zst_length (L : List Nat) (x q : Nat) : (zst L x q).length = L.length + 1 := by simp [zst]
theorem zst_get (L : List Nat) (x q j : Nat) (hj : j < L.length + 1) : (zst L x q)[j]? = some (if j < q then (((KH.ml L x).getD j 0 : Nat) : Int) else (((0 :: L).getD j 0 : Nat) : Int)) := by
  unfold zst; rw [List.getElem?_map, List.getElem?_range hj]; rfl
theorem zst_zero (L : List Nat) (x : Nat) : Value.int .i64 0 :: (zi L).map (Value.int .i64) = (zst L x 0).map (.int .i64) := by
  refine List.ext_getElem (by simp [zst_length, zi_length]) fun j h1 h2 => ?_
  have hj : j < L.length + 1 := by simpa [zi_length] using h1
  have := zst_get L x 0 j hj
  rw [List.getElem_map]
  rw [List.getElem?_eq_getElem (by rw [zst_length]; exact hj)] at this
  injection this with this
  rw [this, if_neg (by omega)]
  cases j with
  | zero => rfl
  | succ j =>
    have hj' : j < L.length := by omega
    simp [zi, List.getD, List.getElem?_eq_getElem hj']
theorem zst_step (L : List Nat) (x q : Nat) : ((zst L x q).map (Value.int .i64)).set q (.int .i64 ((KH.ml L x).getD q 0 : Nat)) = (zst L x (q + 1)).map (.int .i64) := by
  refine List.ext_getElem (by simp [zst_length]) fun j h1 h2 => ?_
  have hj : j < L.length + 1 := by simpa [zst_length] using h2
  rw [List.getElem_set]
  simp only [List.getElem_map, zst, List.getElem_range]
  by_cases e : q = j
  · subst e; rw [if_pos rfl, if_pos (by omega)]
  · rw [if_neg e]
    by_cases h : j < q
    · rw [if_pos h, if_pos (by omega)]
    · rw [if_neg h, if_neg (by omega)]
theorem zst_all (L : List Nat) (x : Nat) : zst L x L.length = zi (KH.ml L x) := by
  refine List.ext_getElem (by rw [zst_length, zi_length, KH.ml_length]) fun j h1 h2 => ?_
  have hj : j < L.length + 1 := by simpa [zst_length] using h1
  have hm : j < (KH.ml L x).length := by rw [KH.ml_length]; exact hj
  simp only [zst, zi, List.getElem_map, List.getElem_range]
  by_cases h : j < L.length
  · rw [if_pos h, List.getD, List.getElem?_eq_getElem hm]; rfl
  · obtain rfl : j = L.length := by omega
    rw [if_neg h]
    have := ml_get L x L.length (Nat.le_refl _)
    have h0 : L.getD L.length 0 = 0 := by rw [List.getD, List.getElem?_eq_none (Nat.le_refl _)]; rfl
    rw [h0, KH.mul_zero, Nat.zero_xor] at this
    rw [← this, List.getD, List.getElem?_eq_getElem hm]; rfl

end Go.Proofs.YtlnilfcjcoclhaaGreatDoor
/- The walk of share.without. -/
namespace Go.Proofs.YtlnilfcjcoclhaaGreatDoor
open Go.RowKit

theorem dv_eq (L : List Nat) (r : Nat) : KH.dv L r = (List.range (L.length - 1)).map fun q => KH.ev (L.drop (q + 1)) r := by
  induction L with
  | nil => rfl
  | cons a L ih =>
    cases L with
    | nil => rfl
    | cons b t =>
      show KH.ev (b :: t) r :: KH.dv (b :: t) r = _
      rw [ih]
      show _ = (List.range (t.length + 1)).map _
      rw [List.range_succ_eq_map, List.map_cons, List.map_map]
      rfl
/-- the digits from the j-th on -/
def wst (L : List Nat) (x n j : Nat) : List Int := (List.range n).map fun q => if j ≤ q then ((KH.ev (L.drop (q + 1)) x : Nat) : Int) else 0
theorem wst_length (L : List Nat) (x n j : Nat) : (wst L x n j).length = n := by simp [wst]
theorem wst_zero (L : List Nat) (x n : Nat) : (wst L x n n).map (Value.int .i64) = List.replicate n (.int .i64 0) := by
  refine List.ext_getElem (by simp [wst]) fun j h1 h2 => ?_
  have hj : j < n := by simpa [wst] using h1
  simp only [wst, List.getElem_map, List.getElem_range, List.getElem_replicate]
  rw [if_neg (by omega)]
theorem wst_step (L : List Nat) (x n j : Nat) : ((wst L x n (j + 1)).map (Value.int .i64)).set j (.int .i64 (KH.ev (L.drop (j + 1)) x : Nat)) = (wst L x n j).map (.int .i64) := by
  refine List.ext_getElem (by simp [wst]) fun q h1 h2 => ?_
  rw [List.getElem_set]
  simp only [wst, List.getElem_map, List.getElem_range]
  by_cases e : j = q
  · subst e; rw [if_pos rfl, if_pos (Nat.le_refl _)]
  · rw [if_neg e]
    by_cases h : j + 1 ≤ q
    · rw [if_pos h, if_pos (by omega)]
    · rw [if_neg h, if_neg (by omega)]
theorem wst_all (L : List Nat) (x n : Nat) (h : L.length = n + 1) : wst L x n 0 = zi (KH.dv L x) := by
  rw [dv_eq, h]
  unfold wst zi
  rw [List.map_map]
  refine List.map_congr_left fun q _ => ?_
  rw [if_pos (Nat.zero_le _)]; rfl

end Go.Proofs.YtlnilfcjcoclhaaGreatDoor
/- The tape's digits, as the program's rounds make them. -/
namespace Go.Proofs.YtlnilfcjcoclhaaGreatDoor
open Go.RowKit

theorem nats_zi (L : List Nat) : nats (zi L) = L := by
  unfold nats zi
  rw [List.map_map]
  conv => rhs; rw [← List.map_id L]
  exact List.map_congr_left fun d _ => Int.toNat_natCast d
theorem allB_zi {L : List Nat} (h : KH.Dg L) : allB (zi L) = true := by
  rw [allB_iff]
  intro x hx
  unfold zi at hx
  obtain ⟨d, hd, rfl⟩ := List.mem_map.1 hx
  have := h d hd
  omega

/-- what is left of the shares' bytes -/
def rsN (s : ByteArray) (l : List (Int × ByteArray)) (j : Nat) : List Nat := (ysN l j).map (sb s j ^^^ ·)
def tpF (s : ByteArray) (l : List (Int × ByteArray)) (k t j : Nat) : Nat := (KH.tp (xsN l) (rsN s l j) k).getD t 0
theorem tpF_lt (s : ByteArray) (l : List (Int × ByteArray)) (k t j : Nat) : tpF s l k t j < 256 := (KH.Dg.tp k).getD t
/-- the weight of a digit -/
def wgt (l : List (Int × ByteArray)) (k t : Nat) : Nat := KH.mul ((KH.qo (xsN l) k).getD t 0) (KH.so (xsN l) k)
theorem tpF_step {s : ByteArray} {l : List (Int × ByteArray)} {k t j : Nat} {p : Int × ByteArray} (h : l[k]? = some p) (ht : t < l.length) :
    tpF s l (k + 1) t j = tpF s l k t j ^^^ KH.mul (wgt l k t) (sb s j ^^^ sb p.2 j) := by
  unfold tpF
  show (KH.zx _ _).getD t 0 = _
  unfold KH.zx
  have h1 : t < (KH.tp (xsN l) (rsN s l j) k).length := by rw [KH.tp_length, xsN_length]; exact ht
  have h2 : t < (KH.qo (xsN l) k).length := by rw [KH.qo_length, xsN_length]; exact ht
  have hr : (rsN s l j).getD k 0 = sb s j ^^^ sb p.2 j := by
    unfold rsN ysN
    rw [List.getD, List.getElem?_map, List.getElem?_map, h]; rfl
  rw [hr, List.getD, List.getElem?_zipWith, List.getElem?_eq_getElem h1, List.getElem?_map, List.getElem?_eq_getElem h2]
  unfold wgt
  rw [KH.getD_eq h1, KH.getD_eq h2]
  rfl
theorem tpF_zero (s : ByteArray) (l : List (Int × ByteArray)) (t j : Nat) : tpF s l 0 t j = 0 := by
  unfold tpF
  show (List.replicate _ 0).getD t 0 = 0
  rw [List.getD, List.getElem?_replicate]
  split <;> rfl
/-- the tape's cells in round k, the first q rows done -/
def tF (s : ByteArray) (l : List (Int × ByteArray)) (k q o : Nat) : Nat := if o / 32 < q then tpF s l (k + 1) (o / 32) (o % 32) else tpF s l k (o / 32) (o % 32)
theorem tF_zero (s : ByteArray) (l : List (Int × ByteArray)) (o : Nat) : tF s l 0 0 o = 0 := by unfold tF; rw [if_neg (by omega), tpF_zero]
theorem tF_next {s : ByteArray} {l : List (Int × ByteArray)} {k n o : Nat} (h : o < n * 32) : tF s l k n o = tF s l (k + 1) 0 o := by
  unfold tF; rw [if_pos (by omega), if_neg (by omega)]
theorem tF_in {s : ByteArray} {l : List (Int × ByteArray)} {k q j : Nat} (hj : j < 32) : tF s l k q (q * 32 + j) = tpF s l k q j := by
  unfold tF
  rw [show (q * 32 + j) / 32 = q by omega, show (q * 32 + j) % 32 = j by omega, if_neg (by omega)]
theorem tF_step {s : ByteArray} {l : List (Int × ByteArray)} {k q o : Nat} :
    (if q * 32 ≤ o ∧ o < q * 32 + 32 then tpF s l (k + 1) q (o - q * 32) else tF s l k q o) = tF s l k (q + 1) o := by
  unfold tF
  by_cases h : q * 32 ≤ o ∧ o < q * 32 + 32
  · rw [if_pos h, show o / 32 = q by omega, if_pos (by omega), show o % 32 = o - q * 32 by omega]
  · rw [if_neg h]
    by_cases h1 : o / 32 < q
    · rw [if_pos h1, if_pos (by omega)]
    · rw [if_neg h1, if_neg (by omega)]

/-- the tape of a secret and shares -/
def tapF (s : ByteArray) (l : List (Int × ByteArray)) (o : Nat) : Nat := (KH.tapeOf (xsN l) (ysN l (o % 32)) (sb s (o % 32))).getD (o / 32) 0
theorem tF_all (s : ByteArray) (l : List (Int × ByteArray)) (o : Nat) : tF s l l.length 0 o = tapF s l o := by
  unfold tF tapF tpF KH.tapeOf rsN
  rw [if_neg (by omega), xsN_length]
theorem tapF_lt (s : ByteArray) (l : List (Int × ByteArray)) (o : Nat) : tapF s l o < 256 := KH.Dg.tapeOf.getD _
def tapeK (s : ByteArray) (l : List (Int × ByteArray)) : Bool := decide (s.size = 32) && (rightS l 1 && decide (l.length ≠ 255))
def tapeV (s : ByteArray) (l : List (Int × ByteArray)) : ByteArray := if tapeK s l then tx (l.length * 32) (tapF s l) else ⟨#[]⟩
def tapeE (s : ByteArray) (l : List (Int × ByteArray)) : Int := if s.size = 32 then if rightS l 1 && decide (l.length ≠ 255) then 0 else 90 else 1

/-! ### Blocks -/
theorem own_blk {w : World} {base g n : Nat} {e : TypeId} {size : Nat} {xs : List Value} (h : w.ownsRow base e size (.slice (some ⟨g, 0, none⟩) n n) n xs) : KH.Blk w g e xs.toArray := by
  obtain ⟨hl, h0 | ⟨g', cap, cur, hv, _, hh, hnc, _, hsz, ht⟩⟩ := h
  · cases h0.1
  · injection hv with h1 h2 h3
    injection h1 with h1
    injection h1 with h1 _
    subst h1; subst h3
    have : cur.toList = xs := by rw [← ht, List.take_of_length_le (by simp [hsz])]
    rw [← this]
    simpa [KH.Blk] using hh
theorem blk_mid {w : World} {g N o : Nat} {t : TypeId} {F G : Nat → Nat} (h : KH.Blk w g t (bl N F).toArray) (ho : o + 32 ≤ N) :
    KH.Blk (w.setCells g o (bl 32 G)) g t (bl N fun p => if o ≤ p ∧ p < o + 32 then G (p - o) else F p).toArray := by
  obtain ⟨cs', h1, h2, h3⟩ := blk_setCells (bl 32 G) o w _ h (by rw [bl_length, bl_size]; exact ho)
  have : cs' = (bl N fun p => if o ≤ p ∧ p < o + 32 then G (p - o) else F p).toArray := by
    refine Array.ext_getElem? fun i => ?_
    rw [h3 i, bl_length, List.getElem?_toArray, List.getElem?_toArray]
    by_cases hi : i < N
    · have hr : (bl N fun p => if o ≤ p ∧ p < o + 32 then G (p - o) else F p)[i]? = some (.int .u8 ((if o ≤ i ∧ i < o + 32 then G (i - o) else F i : Nat))) := bl_get _ hi
      rw [hr]
      by_cases hm : o ≤ i ∧ i < o + 32
      · rw [if_pos hm, if_pos hm, bl_get _ (by omega)]
      · rw [if_neg hm, if_neg hm, bl_get _ hi]
    · rw [if_neg (by omega), List.getElem?_eq_none (by rw [bl_length]; omega), List.getElem?_eq_none (by rw [bl_length]; omega)]
  rw [← this]; exact h1
theorem blk_range_mid {w : World} {g N o : Nat} {t : TypeId} {F G : Nat → Nat} (h : KH.Blk w g t (bl N F).toArray) (ho : o + 32 ≤ N) (hG : ∀ j, j < 32 → F (o + j) = G j) : w.rangeAt g o (bl 32 G) := fun j v hv => by
  have hj : j < 32 := by
    rcases Nat.lt_or_ge j 32 with h | h
    · exact h
    · rw [List.getElem?_eq_none (by rw [bl_length]; exact h)] at hv; cases hv
  rw [h.cell (o + j), List.getElem?_toArray, bl_get _ (by omega), hG j hj, ← hv, bl_get _ hj]
theorem blk_there_mid {w : World} {g N o : Nat} {t : TypeId} {F : Nat → Nat} (h : KH.Blk w g t (bl N F).toArray) (ho : o + 32 ≤ N) : w.there g o 32 := fun j hj => by
  refine ⟨?_, h.frozen _⟩
  rw [h.cell (o + j), List.getElem?_toArray, bl_get _ (by omega)]; rfl
end Go.Proofs.YtlnilfcjcoclhaaGreatDoor
/- The walk of share.Tape, where it refuses. -/
namespace Go.Proofs.YtlnilfcjcoclhaaGreatDoor
open Go.RowKit

end Go.Proofs.YtlnilfcjcoclhaaGreatDoor
/- The walk of share.Tape, where it tells a tape. -/
namespace Go.Proofs.YtlnilfcjcoclhaaGreatDoor
open Go.RowKit

theorem noPanic_normal {Q : Exit → Act → World → Prop} {a : Act} {w : World} (h : Q .normal a w) : NoPanic Q .normal a w := h
/-- a new row of cells lies in a block of its own -/
def NewRow (w wx : World) (v : Value) (cs : List Value) : Prop := ∃ g, v = .pointer (some ⟨g, 0, none⟩) ∧ wx.rangeAt g 0 cs ∧ w.heap.size ≤ g ∧ g < wx.heap.size ∧ Below w.heap.size w wx
theorem wpAnyH_mono {P : Program} {md : Region.Mode} {ops : Array Oper} {Q : Exit → Act → World → Prop} {S S' : World → Prop} (hS : ∀ w, S' w → S w) :
    ∀ (fuel : Nat) (listed : Array Bool) (a : Act) (w : World), wpAnyH P md ops Q S' fuel listed a w → wpAnyH P md ops Q S fuel listed a w
  | 0, _, _, _, h => h
  | fuel + 1, _, _, _, h => ⟨h.1, fun i hi => wpOp_mono (fun a' w' h' => ⟨hS w' h'.1, wpAnyH_mono hS fuel _ a' w' h'.2⟩) (h.2 i hi)⟩
theorem cell_setCells_far {g : Nat} {p : Addr} (hp : p.block ≠ g) : ∀ (vs : List Value) (o : Nat) (w : World), (w.setCells g o vs).cell? p = w.cell? p
  | [], _, _ => rfl
  | v :: r, o, w => by
    rw [World.setCells, cell_setCells_far hp r (o + 1), World.cell?_setCell_other _ _ _ _ (fun e => hp (by rw [← e]))]
theorem there_below {B g o n : Nat} {w w' : World} (hb : Below B w w') (h : w.there g o n) (hg : g < B) : w'.there g o n := fun j hj => by
  obtain ⟨h1, h2⟩ := h j hj
  refine ⟨by rw [hb.cell (p := ⟨g, o + j, none⟩) hg]; exact h1, ?_⟩
  unfold World.frozen? at h2 ⊢
  rw [hb.block g hg]; exact h2
theorem range_below {B g o : Nat} {w w' : World} {cs : List Value} (hb : Below B w w') (h : w.rangeAt g o cs) (hg : g < B) : w'.rangeAt g o cs := fun j v hv => by
  rw [hb.cell (p := ⟨g, o + j, none⟩) hg]; exact h j v hv
theorem range_bytes (w : World) {s : ByteArray} (hs : s.size = 32) : (Lib.bytesWorld w 5 s).rangeAt w.heap.size 0 (bl 32 (sb s)) := fun j v hv => by
  have hj : j < 32 := by
    rcases Nat.lt_or_ge j 32 with h | h
    · exact h
    · rw [List.getElem?_eq_none (by rw [bl_length]; exact h)] at hv; cases hv
  rw [bl_get _ hj] at hv
  rw [Nat.zero_add, Lib.bytesWorld_cell w _ s j (by omega), ← hv]; rfl

theorem setCells_heap (g : Nat) : ∀ (vs : List Value) (o : Nat) (w : World), (w.setCells g o vs).heap.size = w.heap.size
  | [], _, _ => rfl
  | v :: r, o, w => by rw [World.setCells, setCells_heap g r (o + 1)]; simp
theorem reads_setCells {w : World} {B size n g : Nat} {ad : Addr} {xs : List Value} (h : KH.Reads w B size (some ad) n xs) (hp : ad.block ≠ g) (vs : List Value) (o : Nat) : KH.Reads (w.setCells g o vs) B size (some ad) n xs := by
  refine ⟨h.1, fun hn => ?_⟩
  obtain ⟨a, he, hb, hc⟩ := h.2 hn
  injection he with he
  subst he
  exact ⟨ad, rfl, hb, fun i u hi => by rw [cell_setCells_far (by rw [KH.block_of_add]; exact hp)]; exact hc i u hi⟩
theorem blk_tape_step {w : World} {g n k q : Nat} {t : TypeId} {s : ByteArray} {l : List (Int × ByteArray)} {G : Nat → Nat} (h : KH.Blk w g t (bl (n * 32) (tF s l k q)).toArray) (hq : q < n) (hG : ∀ j, j < 32 → G j = tpF s l (k + 1) q j) :
    KH.Blk (w.setCells g (q * 32) (bl 32 G)) g t (bl (n * 32) (tF s l k (q + 1))).toArray := by
  have h1 := blk_mid (G := G) h (show q * 32 + 32 ≤ n * 32 by omega)
  have e : (bl (n * 32) fun p => if q * 32 ≤ p ∧ p < q * 32 + 32 then G (p - q * 32) else tF s l k q p) = bl (n * 32) (tF s l k (q + 1)) := bl_congr fun o _ => by
    rw [← tF_step]
    by_cases ho : q * 32 ≤ o ∧ o < q * 32 + 32
    · rw [if_pos ho, if_pos ho, hG _ (by omega)]
    · rw [if_neg ho, if_neg ho]
  rw [e] at h1; exact h1
theorem blk_tape_next {w : World} {g n k : Nat} {t : TypeId} {s : ByteArray} {l : List (Int × ByteArray)} (h : KH.Blk w g t (bl (n * 32) (tF s l k n)).toArray) : KH.Blk w g t (bl (n * 32) (tF s l (k + 1) 0)).toArray := by
  have e : bl (n * 32) (tF s l k n) = bl (n * 32) (tF s l (k + 1) 0) := bl_congr fun o ho => tF_next ho
  rw [e] at h; exact h
theorem blk_tape_all {w : World} {g n : Nat} {t : TypeId} {s : ByteArray} {l : List (Int × ByteArray)} (h : KH.Blk w g t (bl (n * 32) (tF s l n 0)).toArray) (hl : l.length = n) : KH.Blk w g t (bl (n * 32) (tapF s l)).toArray := by
  have e : bl (n * 32) (tF s l n 0) = bl (n * 32) (tapF s l) := bl_congr fun o _ => by rw [← hl]; exact tF_all s l o
  rw [e] at h; exact h
theorem addr_at (g j : Nat) : (⟨g, 0, none⟩ : Addr).add j = ⟨g, j, none⟩ := by unfold Addr.add; split <;> simp_all
theorem bl_snoc32 (i : Nat) (F : Nat → Nat) : bl ((i + 1) * 32) F = bl (i * 32) F ++ bl 32 fun j => F (i * 32 + j) := by
  unfold bl
  rw [show (i + 1) * 32 = i * 32 + 32 by omega, List.range_add, List.map_append, List.map_map]
  rfl
theorem newRow_set {w w1 : World} {g : Nat} {cs : List Value} (h1 : w.heap.size ≤ g) (h2 : g < w1.heap.size) (hb : Below w.heap.size w w1) (ht : w1.there g 0 cs.length) : NewRow w (w1.setCells g 0 cs) (.pointer (some ⟨g, 0, none⟩)) cs :=
  ⟨g, rfl, World.rangeAt_setCells_same _ _ _ _ ht, h1, by rw [setCells_heap]; exact h2, below_setCells h1 cs 0 w1 hb⟩

end Go.Proofs.YtlnilfcjcoclhaaGreatDoor
