import Derived.Test.YtlnilfcjcoclhaaGreatDoorBe
import Derived.Test.YtlnilfcjcoclhaaGreatDoorPlC
import Derived.Deep.Onto
/- Package tree: leaves, nodes, what may have a root; the top row. -/
namespace Go.Proofs.YtlnilfcjcoclhaaGreatDoor
open Go.RowKit

def leafT (s : ByteArray) : ByteArray := ⟨#[0]⟩ ++ s
def nodeT (a b : ByteArray) : ByteArray := (⟨#[1]⟩ ++ a) ++ b
def lfV (K : Nat → Nat) (s : ByteArray) : ByteArray := sumV K (leafT s)
def ndV (K : Nat → Nat) (a b : ByteArray) : ByteArray := sumV K (nodeT a b)
theorem leafT_size (s : ByteArray) : (leafT s).size = 1 + s.size := by unfold leafT; rw [ByteArray.size_append]; rfl
theorem nodeT_size (a b : ByteArray) : (nodeT a b).size = 1 + a.size + b.size := by unfold nodeT; rw [ByteArray.size_append, ByteArray.size_append]; rfl
set_option maxRecDepth 100000 in
theorem leafText_any (s : ByteArray) (w : World) (hs : s.size ≤ 100000) :
    Calls Tryz.prog 105 #[.string s] w fun e w' => e = .returned (.string (leafT s)) ∧ w = w' := by
  have hc : (⟨#[0]⟩ : ByteArray).size + s.size ≤ 9223372036854775807 := by show 1 + s.size ≤ _; omega
  go_enter Tryz.func105, Tryz.ntmps105
  go_wp2
  go_ret
  exact ⟨rfl, rfl⟩
set_option maxRecDepth 100000 in
theorem nodeText_any (a b : ByteArray) (w : World) (ha : a.size ≤ 100000) (hb : b.size ≤ 100000) :
    Calls Tryz.prog 125 #[.string a, .string b] w fun e w' => e = .returned (.string (nodeT a b)) ∧ w = w' := by
  have hc : (⟨#[1]⟩ : ByteArray).size + a.size ≤ 9223372036854775807 := by show 1 + a.size ≤ _; omega
  have hc2 : ((⟨#[1]⟩ : ByteArray) ++ a).size + b.size ≤ 9223372036854775807 := by rw [ByteArray.size_append]; show 1 + a.size + b.size ≤ _; omega
  go_enter Tryz.func125, Tryz.ntmps125
  go_wp2
  go_ret
  exact ⟨rfl, rfl⟩
set_option maxRecDepth 100000 in
theorem leaf_any (K : Nat → Nat) (s : ByteArray) (w : World) (hK : RoundsAt K w) (hs : s.size ≤ 100000) :
    Calls Tryz.prog 91 #[.string s] w fun e w' => e = .returned (.string (lfV K s)) ∧ Below w.heap.size w w' := by
  have HS := KH.hid (dsum_any K (leafT s) w hK (by rw [leafT_size]; omega))
  go_enter Tryz.func91, Tryz.ntmps91
  go_wp2_with fail
  refine (leafText_any s w hs).mono ?_; rintro e w1 ⟨rfl, rfl⟩
  go_wp2_with fail
  refine HS.out.mono ?_; rintro e w2 ⟨rfl, hb⟩
  go_wp2
  go_ret
  exact ⟨rfl, hb⟩
set_option maxRecDepth 100000 in
theorem node_any (K : Nat → Nat) (a b : ByteArray) (w : World) (hK : RoundsAt K w) (ha : a.size ≤ 100000) (hb : b.size ≤ 100000) :
    Calls Tryz.prog 106 #[.string a, .string b] w fun e w' => e = .returned (.string (ndV K a b)) ∧ Below w.heap.size w w' := by
  have HS := KH.hid (dsum_any K (nodeT a b) w hK (by rw [nodeT_size]; omega))
  go_enter Tryz.func106, Tryz.ntmps106
  go_wp2_with fail
  refine (nodeText_any a b w ha hb).mono ?_; rintro e w1 ⟨rfl, rfl⟩
  go_wp2_with fail
  refine HS.out.mono ?_; rintro e w2 ⟨rfl, hb⟩
  go_wp2
  go_ret
  exact ⟨rfl, hb⟩

/-- how many blocks a volume may have -/
def cntB (n : Int) : Bool := n == 1 || n == 2 || n == 4 || n == 8 || n == 16 || n == 32 || n == 64
theorem cntB_nat {n : Int} (h : cntB n = true) : ∃ m : Nat, n = m ∧ (m = 1 ∨ m = 2 ∨ m = 4 ∨ m = 8 ∨ m = 16 ∨ m = 32 ∨ m = 64) := by
  simp [cntB] at h
  refine ⟨n.toNat, ?_, ?_⟩ <;> omega
set_option maxRecDepth 100000 in
theorem mayRoot_yes (n : Nat) (w : World) (hn : cntB n = true) :
    Calls Tryz.prog 75 #[.int .i64 n] w fun e w' => e = .returned (.bool true) ∧ w = w' := by
  obtain ⟨m, hm, h⟩ := cntB_nat hn
  obtain rfl : n = m := by omega
  rcases h with rfl | rfl | rfl | rfl | rfl | rfl | rfl
  all_goals
    go_enter Tryz.func75, Tryz.ntmps75
    go_wp2
    go_ret
    exact ⟨rfl, rfl⟩

/-- the rows that are made, with the top one -/
def RowsAt (w : World) (base h : Nat) (AT : Option Addr) (cT : Nat) (L : List ByteArray) : Prop :=
  ∃ A1 n1 c1 s m c2 xs, KH.Blk w h 141 #[.slice A1 n1 c1, .slice (some ⟨s, 0, none⟩) (m + 1) c2] ∧ base ≤ h ∧ m + L.length ≤ 100 ∧
    w.ownsRow base 30 1 (.slice (some ⟨s, 0, none⟩) (m + 1) c2) (m + 1) xs ∧ xs[m]? = some (.slice AT L.length cT) ∧ L.length ≤ cT ∧
    w.ownsRow base 9 1 (.slice AT L.length cT) L.length (L.map .string)
set_option maxRecDepth 100000 in
theorem top_any {w : World} {base h : Nat} {AT : Option Addr} {cT : Nat} {L : List ByteArray} (hr : RowsAt w base h AT cT L) :
    Calls Tryz.prog 92 #[.pointer (some ⟨h, 0, none⟩)] w fun e w' => e = .returned (.slice AT L.length cT) ∧ ∃ q, w' = w.drewN q := by
  obtain ⟨A1, n1, c1, s, m, c2, xs, hk, -, hm, ho, hx, -, -⟩ := hr
  have f0 : w.cell? ⟨h, 1, none⟩ = some (.slice (some ⟨s, 0, none⟩) (m + 1) c2) := hk.cell 1
  have f1 : w.cell? ⟨s, m, none⟩ = some (.slice AT L.length cT) := (ho.cellAt m (by omega)).trans hx
  have e0 : IntKind.i64.wrap (((m + 1 : Nat) : Int) - 1) = ((m : Nat) : Int) := by rw [show ((m + 1 : Nat) : Int) - 1 = (m : Int) by omega]; exact IntWalk.i64_in _ (by omega)
  have m0 : (0 : Int) ≤ (m : Int) := by omega
  have m1 : (m : Int) < ((m + 1 : Nat) : Int) := by omega
  clear hx ho hk
  go_enter Tryz.func92, Tryz.ntmps92
  go_wp2
  go_quiet (fail)
  go_wp2
  go_ret
  exact ⟨rfl, _, rfl⟩
set_option maxRecDepth 100000 in
theorem root_any {w : World} {base h : Nat} {AT : Option Addr} {cT : Nat} {L : List ByteArray} (hr : RowsAt w base h AT cT L) (hL : 0 < L.length) :
    Calls Tryz.prog 77 #[.pointer (some ⟨h, 0, none⟩)] w fun e w' => e = .returned (.string (L.getD 0 ⟨#[]⟩)) ∧ ∃ q, w' = w.drewN q := by
  have HR := KH.hid hr
  obtain ⟨A1, n1, c1, s, m, c2, xs, hk, -, hm, -, -, -, ho⟩ := hr
  obtain ⟨g, cap, hv, -, -⟩ := ho.form hL
  obtain rfl : AT = some ⟨g, 0, none⟩ := by injection hv
  have f0 : w.cell? ⟨g, 0, none⟩ = some (.string (L.getD 0 ⟨#[]⟩)) := (ho.cellAt 0 (by omega)).trans (by rw [List.getElem?_map, List.getD_eq_getElem?_getD, List.getElem?_eq_getElem hL]; rfl)
  generalize L.getD 0 ⟨#[]⟩ = o at *
  have l0 : (0 : Int) < (L.length : Int) := by omega
  clear hk ho hm hv
  go_enter Tryz.func77, Tryz.ntmps77
  go_wp2_with fail
  refine (top_any HR.out).mono ?_; rintro e w1 ⟨rfl, q, rfl⟩
  have f1 : (w.drewN q).cell? ⟨g, 0, none⟩ = some (.string o) := f0
  go_wp2
  go_ret
  exact ⟨rfl, _, rfl⟩
end Go.Proofs.YtlnilfcjcoclhaaGreatDoor
/- Package tree: rise, rowsOf, Root. -/
namespace Go.Proofs.YtlnilfcjcoclhaaGreatDoor
open Go.RowKit

theorem one_reads (w : World) (v : Value) (t : TypeId) : KH.Reads (w.alloc (.cells #[v] t)) (w.heap.size + 1) 1 (some ⟨w.heap.size, 0, none⟩) 1 [v] := by
  refine ⟨rfl, fun _ => ⟨_, rfl, by show w.heap.size < _; omega, fun j u hu => ?_⟩⟩
  rw [addr_at, World.cell?_alloc_at _ _ _ _ rfl]
  simpa using hu
theorem sli_info : (Tryz.prog.info? 30).map (fun i => (i.zero, i.size, i.bytes)) = some (some (.slice none 0 0), 1, 24) := by kernel_rfl
/-- the row above a row -/
def upI (K : Nat → Nat) (L : List ByteArray) (k : Nat) : List ByteArray := (List.range k).map fun j => ndV K (L.getD (2 * j) ⟨#[]⟩) (L.getD (2 * j + 1) ⟨#[]⟩)
def upL (K : Nat → Nat) (L : List ByteArray) : List ByteArray := upI K L (L.length / 2)
theorem upI_length (K : Nat → Nat) (L : List ByteArray) (k : Nat) : (upI K L k).length = k := by simp [upI]
theorem upL_length (K : Nat → Nat) (L : List ByteArray) : (upL K L).length = L.length / 2 := upI_length _ _ _
theorem upI_snoc (K : Nat → Nat) (L : List ByteArray) (k : Nat) : upI K L (k + 1) = upI K L k ++ [ndV K (L.getD (2 * k) ⟨#[]⟩) (L.getD (2 * k + 1) ⟨#[]⟩)] := by
  unfold upI; rw [List.range_succ, List.map_append]; rfl
theorem upI_size (K : Nat → Nat) (L : List ByteArray) (k : Nat) : ∀ x ∈ upI K L k, x.size = 32 := fun x hx => by
  obtain ⟨j, _, rfl⟩ := List.mem_map.1 hx; exact sumV_size _ _
theorem str_at {L : List ByteArray} {k : Nat} (h : k < L.length) : (L.map Value.string)[k]? = some (.string (L.getD k ⟨#[]⟩)) := by
  rw [List.getElem?_map, List.getD_eq_getElem?_getD, List.getElem?_eq_getElem h]; rfl
theorem getD_size32 {L : List ByteArray} (h : ∀ x ∈ L, x.size = 32) (i : Nat) : (L.getD i ⟨#[]⟩).size ≤ 100000 := by
  rw [List.getD_eq_getElem?_getD]
  by_cases hi : i < L.length
  · rw [List.getElem?_eq_getElem hi]; have := h _ (List.getElem_mem hi); simpa using (by omega : (L[i]'hi).size ≤ 100000)
  · rw [List.getElem?_eq_none (by omega)]; exact Nat.zero_le _
set_option maxHeartbeats 1000000 in
set_option maxRecDepth 100000 in
theorem rise_any (K : Nat → Nat) {w : World} {base h : Nat} {AT : Option Addr} {cT : Nat} {L : List ByteArray} (hr : RowsAt w base h AT cT L) (hK : RoundsAt K w) (hg : 1 < base) (h2 : 2 ≤ L.length) (hs : ∀ x ∈ L, x.size = 32) :
    Calls Tryz.prog 93 #[.pointer (some ⟨h, 0, none⟩)] w fun e w' => e = .returned (.tuple #[]) ∧ (∃ AT' cT', RowsAt w' base h AT' cT' (upL K L)) ∧ Below base w w' := by
  obtain ⟨i0, hi, hz0, hz1, hz2⟩ := info_parts str_info
  obtain ⟨i1, hi1, hy0, hy1, hy2⟩ := info_parts sli_info
  have HR := KH.hid hr
  have HS := KH.hid (getD_size32 hs)
  obtain ⟨A1, n1, c1, s, m, c2, xs, hk, hbh, hm, ho, hx, hlc, hoT⟩ := hr
  have hbw : base ≤ w.heap.size := Nat.le_trans hbh (Nat.le_of_lt hk.lt)
  obtain ⟨g, cap, hv, -, hgl⟩ := hoT.form (by omega)
  obtain rfl : AT = some ⟨g, 0, none⟩ := by injection hv
  have HC : Hid (∀ j, j < L.length → w.cell? ⟨g, j, none⟩ = some (.string (L.getD j ⟨#[]⟩))) := fun j hj => (hoT.cellAt j (by omega)).trans (str_at hj)
  clear hv hs hx hlc
  go_enter Tryz.func93, Tryz.ntmps93
  go_wp2_with fail
  refine (top_any HR.out).mono ?_; rintro e w1 ⟨rfl, q, rfl⟩
  have hq := below_drewN (Below.refl w.heap.size w) q
  have HC2 : Hid ((L.length : Int) / 2 = ((L.length / 2 : Nat) : Int)) := by show _ = _; omega
  go_wp2_with (at_make; refine wpList_make_own _ rfl _ _ 30 rfl w.heap.size 9 i0 (.string ⟨#[]⟩) 1 Tryz.underlying30 hi hz0 hz1 .i64 .i64 _ (L.length / 2) rfl rfl HC2.out (by rw [hz2]; omega) (by unfold maxLen; omega) (Nat.le_refl _) ?_; intro w3 hown3 hg3)
  have hb3 : Below w.heap.size w w3 := hq.grown hg3 hq.size (fun _ h => by cases h)
  have HZ := KH.hid (And.intro hk (And.intro ho hoT))
  have HN := KH.hid (And.intro hK (And.intro hg hbw))
  obtain ⟨n, hn⟩ : ∃ n, n = L.length := ⟨_, rfl⟩
  have hn100 : n ≤ 100 := by omega
  have hown4 : w3.ownsRow w.heap.size 9 1 (.slice (some ⟨(w.drewN q).heap.size, 0, none⟩) 0 (L.length / 2)) 0 ((upI K L 0).map .string) := hown3
  clear hk ho hoT hK hq hown3 hg3
  rw [← hn] at hown4 HC ⊢
  have HNL := KH.hid hn
  rw [← hn] at h2 hm
  clear HC2 hn
  go_loopw [3, 4] (fun v t wr => ∃ k : Nat, 2 * k ≤ n ∧ t = .int .i64 (2 * k : Nat) ∧ wr.ownsRow w.heap.size 9 1 v k ((upI K L k).map .string) ∧ Below w.heap.size w wr) (fun _ t _ => n + 2 - (intOf t).toNat)
  case atStart => exact ⟨0, Nat.zero_le _, rfl, hown4, hb3⟩
  case round =>
    obtain ⟨k, hk, rfl, hown, hb⟩ := hrel
    clear hown4 hb3
    have hsz := hb.size
    by_cases hlt : 2 * k + 1 < n
    · have d1 : decide (((2 * k : Nat) : Int) + 1 < (n : Int)) = true := by rw [decide_eq_true_iff]; omega
      have ca := (hb.cell (p := ⟨g, 2 * k, none⟩) hgl).trans (HC.out (2 * k) (by omega))
      have cb := (hb.cell (p := ⟨g, 2 * k + 1, none⟩) hgl).trans (HC.out (2 * k + 1) hlt)
      have HND : Hid (Calls Tryz.prog 106 #[.string (L.getD (2 * k) ⟨#[]⟩), .string (L.getD (2 * k + 1) ⟨#[]⟩)] wr.drew fun e w' => e = .returned (.string (ndV K (L.getD (2 * k) ⟨#[]⟩) (L.getD (2 * k + 1) ⟨#[]⟩))) ∧ Below wr.heap.size wr w') :=
        (node_any K _ _ wr.drew (rounds_below HN.out.1 hb.drew (by omega)) (HS.out _) (HS.out _)).mono fun _ _ ⟨he, hw⟩ => ⟨he, ((Below.refl wr.heap.size wr).drew).trans hw⟩
      have HU := KH.hid (upI_snoc K L k)
      generalize ndV K (L.getD (2 * k) ⟨#[]⟩) (L.getD (2 * k + 1) ⟨#[]⟩) = sv at *
      generalize L.getD (2 * k) ⟨#[]⟩ = sa at *
      generalize L.getD (2 * k + 1) ⟨#[]⟩ = sb' at *
      obtain ⟨A3, c3, rfl⟩ := KH.own_form hown
      have HG : Hid (2 * k + 1 < n) := hlt
      obtain ⟨p, hp⟩ : ∃ p, p = 2 * k := ⟨_, rfl⟩
      have HP := KH.hid hp
      rw [← hp] at ca cb d1 hlt ⊢
      have i0' : (0 : Int) ≤ (p : Int) := by omega
      have i1 : (p : Int) < (n : Int) := by omega
      have i2 : (0 : Int) ≤ (p : Int) + 1 := by omega
      have i3 : (p : Int) + 1 < (n : Int) := by omega
      have i4 : ((p : Int) + 1).toNat = p + 1 := by omega
      have j1 : p < n := by omega
      have e1 : IntKind.i64.wrap ((p : Int) + 1) = (p : Int) + 1 := IntWalk.i64_in _ (by omega)
      have hk100 : k ≤ 100 := by omega
      clear hp hk
      go_wp2_with fail
      go_region_held3 (fun w' => w'.cell? ⟨g, p, none⟩ = some (.string sa) ∧ w'.cell? ⟨g, p + 1, none⟩ = some (.string sb')) (first | exact ⟨by assumption, by assumption⟩ | exact ⟨(World.cell?_alloc_lt _ _ _ (by show g < _; omega)).trans ca5, (World.cell?_alloc_lt _ _ _ (by show g < _; omega)).trans cb5⟩ | exact ⟨hgrow6.cell ((World.cell?_alloc_lt _ _ _ (by show g < _; omega)).trans ca5) (fun e => by have := (hown5.lt g e.symm).1; omega), hgrow6.cell ((World.cell?_alloc_lt _ _ _ (by show g < _; omega)).trans cb5) (fun e => by have := (hown5.lt g e.symm).1; omega)⟩ | go_keep) (first
        | (go_at_call 106; refine HND.out.mono ?_; rintro e w5 ⟨rfl, hb5⟩; have hown5 := KH.own_below hown hb5; have hs5 := hb5.size; have ca5 := (hb5.cell (p := ⟨g, p, none⟩) (by show g < _; omega)).trans ca; have cb5 := (hb5.cell (p := ⟨g, p + 1, none⟩) (by show g < _; omega)).trans cb)
        | (refine KH.step_append_any _ (by rfl) _ _ _ (by rfl) w.heap.size 9 i0 _ 1 16 Tryz.underlying30 hi hz0 hz1 hz2 rfl (by omega) (.slice A3 k c3) k _ (by rfl) (hown5.alloc _) (w5.heap.size + 1) (some ⟨w5.heap.size, 0, none⟩) 1 1 _ (by rfl) (one_reads w5 (.string sv) _) (by intro u hu; simp at hu; subst hu; rfl) (by unfold maxLen; omega) (by omega) (by simp; omega) ?_; intro v6 w6 hown6 hgrow6 hlies6))
      have hb6 : Below w.heap.size w w6 := ((hb.trans (hb5.mono hsz)).alloc (by omega) (.cells #[.string sv] 9)).grown hgrow6 (by simp; omega) fun q hq => (hown5.lt q hq).1
      have hU2 : (upI K L k).map Value.string ++ [Value.string sv] = (upI K L (k + 1)).map Value.string := by rw [HU.out, List.map_append]; rfl
      rw [hU2] at hown6
      have hP := HP.out
      clear hown5 hb5 hown hb ca cb ca5 cb5 hgrow6 hlies6 HND HU
      go_wp2_with fail
      exact ⟨⟨k + 1, by omega, by rw [show (2 * (k + 1) : Nat) = p + 2 by omega]; go_num, hown6, hb6⟩, by simp [intOf]; omega⟩
    · obtain rfl : k = n / 2 := by omega
      have d1 : decide (((2 * (n / 2) : Nat) : Int) + 1 < (n : Int)) = false := by rw [decide_eq_false_iff_not]; omega
      have e1 : IntKind.i64.wrap (((2 * (n / 2) : Nat) : Int) + 1) = ((2 * (n / 2) : Nat) : Int) + 1 := IntWalk.i64_in _ (by omega)
      obtain ⟨hk0, ho0, hoT0⟩ := HZ.out
      have hk1 := hk0.below hb hk0.lt
      have ho1 := KH.own_below ho0 hb
      have hbase := HN.out.2.2
      have hbb : base ≤ wr.heap.size := by omega
      have f1 : wr.cell? ⟨h, 1, none⟩ = some (.slice (some ⟨s, 0, none⟩) (m + 1) c2) := hk1.cell 1
      have f3 : wr.frozen? ⟨h, 1, none⟩ = false := hk1.frozen 1
      have HK := KH.hid hk1
      have hown' := hown
      obtain ⟨A3, c3, rfl⟩ := KH.own_form hown
      have f1' : (wr.alloc (.cells #[.slice A3 (n / 2) c3] 30)).cell? ⟨h, 1, none⟩ = some (.slice (some ⟨s, 0, none⟩) (m + 1) c2) := (World.cell?_alloc_lt wr _ _ (by show h < _; exact hk1.lt)).trans f1
      clear hk1 ho0 hoT0 hk0 hown
      obtain ⟨p, hp⟩ : ∃ p, p = 2 * (n / 2) := ⟨_, rfl⟩
      rw [← hp] at d1 e1 ⊢
      clear hp hk
      go_wp2_with (at_builtin; refine KH.wpList_append_any _ rfl _ _ _ rfl base 30 i1 _ 1 24 Tryz.underlying139 hi1 hy0 hy1 hy2 rfl (by omega) (.slice (some ⟨s, 0, none⟩) (m + 1) c2) (m + 1) _ rfl (ho1.alloc _) (wr.heap.size + 1) (some ⟨wr.heap.size, 0, none⟩) 1 1 _ rfl (one_reads wr (.slice A3 (n / 2) c3) _) (by intro u hu; simp at hu; subst hu; rfl) (by unfold maxLen; omega) (by omega) (by simp; omega) ?_; intro v6 w6 hown6 hgrow6 hlies6; obtain ⟨A6, c6, rfl⟩ := KH.own_form hown6; have hk6 := (HK.out.alloc (.cells #[.slice A3 (n / 2) c3] 30)).grown hgrow6 (Ne.symm (KH.own_blk_ne ho1 HK.out (by decide))); have f4 : w6.cell? ⟨h, 1, none⟩ = some (.slice (some ⟨s, 0, none⟩) (m + 1) c2) := hk6.cell 1; have f5 : w6.frozen? ⟨h, 1, none⟩ = false := hk6.frozen 1)
      refine bodyPost_end (results_none rfl _ _ _) rfl ?_
      obtain ⟨s6, c6', hv6, -, -⟩ := hown6.form (by omega)
      obtain rfl : A6 = some ⟨s6, 0, none⟩ := by injection hv6
      have hb6 : Below base wr w6 := ((Below.refl wr.heap.size wr).alloc (Nat.le_refl _) (.cells #[.slice A3 (n / 2) c3] 30)).mono hbb |>.grown hgrow6 (by simp; omega) fun q hq => (ho1.lt q hq).1
      have hT6 : w6.ownsRow base 9 1 (.slice A3 (n / 2) c3) (n / 2) ((upI K L (n / 2)).map .string) := (World.ownsRow.mono (hown'.alloc _) hbase).kept hgrow6 (by
        by_cases h0 : n / 2 = 0
        · omega
        · obtain ⟨g3, c3', hv3, -, -⟩ := hown'.form (by omega)
          obtain rfl : A3 = some ⟨g3, 0, none⟩ := by injection hv3
          exact .inr fun e => KH.own_blk_ne ho1 (KH.own_blk' hown').choose_spec (by decide) e.symm)
      have hxl : xs.length = m + 1 := by have := ho1.1; omega
      have hU : upL K L = upI K L (n / 2) := by unfold upL; rw [← HNL.out]
      refine ⟨rfl, ⟨A3, c3, A1, n1, c1, s6, m + 1, c6, xs ++ [.slice A3 (n / 2) c3], ?_, hbh, ?_, ownsRow_setCell_other hown6 ?_ _, ?_, ?_, ?_⟩, ((hb.mono hbase).trans hb6).setCell (p := ⟨h, 1, none⟩) hbh _⟩
      · have := hk6.set_ 1 (.slice (some ⟨s6, 0, none⟩) (m + 1 + 1) c6)
        simpa using this
      · rw [hU, upI_length]; omega
      · exact KH.own_blk_ne hown6 hk6 (by decide)
      · rw [hU, upI_length, List.getElem?_append_right (by omega), hxl]; simp
      · rw [hU, upI_length]
        rcases hT6.2 with ⟨h1, h2⟩ | ⟨g', cap', cur, h1, _, _, h2, _⟩
        · omega
        · injection h1 with _ _ h1; omega
      · rw [hU, upI_length]
        refine ownsRow_setCell_other hT6 ?_ _
        exact KH.own_blk_ne hT6 hk6 (by decide)
end Go.Proofs.YtlnilfcjcoclhaaGreatDoor
/- Package tree: rowsOf, Root. -/
namespace Go.Proofs.YtlnilfcjcoclhaaGreatDoor
open Go.RowKit

/-- the one digest above a row -/
def rtF (K : Nat → Nat) : Nat → List ByteArray → ByteArray
  | 0, L => L.getD 0 ⟨#[]⟩
  | f + 1, L => if L.length ≤ 1 then L.getD 0 ⟨#[]⟩ else rtF K f (upL K L)
def rootV (K : Nat → Nat) (l : List ByteArray) : ByteArray := rtF K l.length (l.map (lfV K))
theorem rtF_one (K : Nat → Nat) (f : Nat) {L : List ByteArray} (h : L.length ≤ 1) : rtF K f L = L.getD 0 ⟨#[]⟩ := by
  cases f with
  | zero => rfl
  | succ f => rw [rtF, if_pos h]
theorem rtF_more (K : Nat → Nat) : ∀ f g L, L.length ≤ f → L.length ≤ g → rtF K f L = rtF K g L
  | 0, g, L, h, _ => by rw [rtF_one K g (by omega)]; rfl
  | f + 1, 0, L, _, h => by rw [rtF_one K (f + 1) (by omega)]; rfl
  | f + 1, g + 1, L, h1, h2 => by
    unfold rtF
    by_cases h : L.length ≤ 1
    · rw [if_pos h, if_pos h]
    · rw [if_neg h, if_neg h]
      exact rtF_more K f g _ (by rw [upL_length]; omega) (by rw [upL_length]; omega)
theorem rtF_up (K : Nat → Nat) {L : List ByteArray} (h : 1 < L.length) : rtF K L.length L = rtF K (upL K L).length (upL K L) := by
  obtain ⟨f, hf⟩ : ∃ f, L.length = f + 1 := ⟨L.length - 1, by omega⟩
  rw [hf, rtF, if_neg (by omega)]
  exact rtF_more K _ _ _ (by rw [upL_length]; omega) (Nat.le_refl _)
theorem rtF_size (K : Nat → Nat) : ∀ f L, (∀ x ∈ L, x.size = 32) → 0 < L.length → (rtF K f L).size = 32
  | 0, L, h, h0 => by
    show (L.getD 0 ⟨#[]⟩).size = 32
    rw [List.getD_eq_getElem?_getD, List.getElem?_eq_getElem h0]
    exact h _ (List.getElem_mem h0)
  | f + 1, L, h, h0 => by
    unfold rtF
    split
    · rw [List.getD_eq_getElem?_getD, List.getElem?_eq_getElem h0]
      exact h _ (List.getElem_mem h0)
    · exact rtF_size K f _ (upI_size _ _ _) (by rw [upL_length]; omega)
theorem lfs_size (K : Nat → Nat) (l : List ByteArray) : ∀ x ∈ l.map (lfV K), x.size = 32 := fun x hx => by
  obtain ⟨y, _, rfl⟩ := List.mem_map.1 hx; exact sumV_size _ _
theorem rootV_size (K : Nat → Nat) (l : List ByteArray) (h : 0 < l.length) : (rootV K l).size = 32 := rtF_size K _ _ (lfs_size K l) (by simpa using h)
/-- how long the top row is -/
def topLen (w : World) (h : Nat) : Nat := match w.cell? ⟨h, 1, none⟩ with
  | some (.slice (some a) m _) => match w.cell? (a.add (m - 1)) with
    | some (.slice _ n _) => n
    | _ => 0
  | _ => 0
theorem topLen_eq {w : World} {base h : Nat} {AT : Option Addr} {cT : Nat} {L : List ByteArray} (hr : RowsAt w base h AT cT L) : topLen w h = L.length := by
  obtain ⟨A1, n1, c1, s, m, c2, xs, hk, -, hm, ho, hx, -, -⟩ := hr
  have f0 : w.cell? ⟨h, 1, none⟩ = some (.slice (some ⟨s, 0, none⟩) (m + 1) c2) := hk.cell 1
  have f1 : w.cell? ((⟨s, 0, none⟩ : Addr).add m) = some (.slice AT L.length cT) := by rw [addr_at]; exact (ho.cellAt m (by omega)).trans hx
  unfold topLen
  rw [f0]
  simp only [Nat.add_sub_cancel, f1]
theorem RowsAt.below {w w' : World} {base h : Nat} {AT : Option Addr} {cT : Nat} {L : List ByteArray} (hr : RowsAt w base h AT cT L) (hb : Below w.heap.size w w') : RowsAt w' base h AT cT L := by
  obtain ⟨A1, n1, c1, s, m, c2, xs, hk, h1, hm, ho, hx, h2, hT⟩ := hr
  exact ⟨A1, n1, c1, s, m, c2, xs, hk.below hb hk.lt, h1, hm, KH.own_below ho hb, hx, h2, KH.own_below hT hb⟩
theorem RowsAt.base {w : World} {base base' h : Nat} {AT : Option Addr} {cT : Nat} {L : List ByteArray} (hr : RowsAt w base h AT cT L) (hb : base' ≤ base) : RowsAt w base' h AT cT L := by
  obtain ⟨A1, n1, c1, s, m, c2, xs, hk, h1, hm, ho, hx, h2, hT⟩ := hr
  exact ⟨A1, n1, c1, s, m, c2, xs, hk, by omega, hm, World.ownsRow.mono ho hb, hx, h2, World.ownsRow.mono hT hb⟩
def lfR (K : Nat → Nat) (l : List ByteArray) (k : Nat) : List Value := ((l.take k).map (lfV K)).map .string
theorem lf_snoc (K : Nat → Nat) {l : List ByteArray} {k : Nat} (hk : k < l.length) : lfR K l (k + 1) = lfR K l k ++ [.string (lfV K (l.getD k ⟨#[]⟩))] := by
  unfold lfR
  rw [List.take_add_one, List.getD_eq_getElem?_getD, List.getElem?_eq_getElem hk]; simp only [Option.toList_some, List.map_append, List.map_cons, List.map_nil, Option.getD_some]
theorem lfR_all (K : Nat → Nat) (l : List ByteArray) : lfR K l l.length = (l.map (lfV K)).map .string := by unfold lfR; rw [List.take_length]
theorem load_rows {fn : Func} {p : Nat} {tmps : Array Value} {w : World} {h : Nat} {x y : Value}
    (hr : fn.results = #[.cell p 141]) (hp : tmps.getD p undef = .pointer (some ⟨h, 0, none⟩))
    (h0 : w.cell? ⟨h, 0, none⟩ = some x) (h1 : w.cell? ⟨h, 1, none⟩ = some y) : (results fn tmps).run Tryz.prog w = .ok (.agg #[x, y]) w := by
  rw [Array.getD_eq_getD_getElem?] at hp
  simp [results, hr, hp, go_sem, h0, h1]
set_option maxHeartbeats 1000000 in
set_option maxRecDepth 100000 in
theorem rowsOf_any (K : Nat → Nat) {w : World} {B n c : Nat} {A : Option Addr} {l : List ByteArray} (hr : KH.Reads w B 1 A n (l.map .string)) (hB : B ≤ w.heap.size) (h1 : 1 ≤ n) (hn : n ≤ 64) (hs : ∀ i, (l.getD i ⟨#[]⟩).size ≤ 100000) (hK : RoundsAt K w) :
    Calls Tryz.prog 76 #[.slice A n c] w fun e w' => ∃ A1 n1 c1 A2 n2 c2 AT cT, e = .returned (.agg #[.slice A1 n1 c1, .slice A2 n2 c2]) ∧ RowsAt (w'.alloc (.cells #[.slice A1 n1 c1, .slice A2 n2 c2] 141)) w.heap.size w'.heap.size AT cT [rootV K l] ∧ Below w.heap.size w w' := by
  obtain ⟨i0, hi, hz0, hz1, hz2⟩ := info_parts str_info
  have hl : l.length = n := by have := hr.1; simpa using this
  have hg := hK.1
  have HR := KH.hid (And.intro hr (And.intro hs (And.intro hK hl)))
  have k0 := KH.Blk.new w 141 #[.slice none 0 0, .slice none 0 0]
  have hb0 := (Below.refl w.heap.size w).alloc (Nat.le_refl _) (.cells #[.slice none 0 0, .slice none 0 0] 141)
  have hz : (w.alloc (.cells #[.slice none 0 0, .slice none 0 0] 141)).heap.size = w.heap.size + 1 := by simp
  clear hr hs hK
  go_enter Tryz.func76, Tryz.ntmps76
  go_wp2_with (at_make; refine wpList_make_own _ rfl _ _ 30 rfl (w.heap.size + 1) 9 i0 (.string ⟨#[]⟩) 1 Tryz.underlying30 hi hz0 hz1 .i64 .i64 _ n rfl rfl rfl (by rw [hz2]; omega) (by unfold maxLen; omega) (by omega) ?_; intro w3 hown3 hg3)
  have hb3 : Below w.heap.size w w3 := hb0.grown hg3 (by omega) (fun _ h => by cases h)
  have hb13 : Below (w.heap.size + 1) (w.alloc (.cells #[.slice none 0 0, .slice none 0 0] 141)) w3 := (Below.refl (w.heap.size + 1) (w.alloc (.cells #[.slice none 0 0, .slice none 0 0] 141))).grown hg3 (by omega) (fun _ h => by cases h)
  have k3 := k0.below hb13 (by omega)
  have hown4 : w3.ownsRow (w.heap.size + 1) 9 1 (.slice (some ⟨w.heap.size + 1, 0, none⟩) 0 n) 0 (lfR K l 0) := by rw [hz] at hown3; exact hown3
  clear hown3 hg3 hb13 k0 hb0 hz
  obtain ⟨h2, e2⟩ : ∃ h, h = w.heap.size := ⟨_, rfl⟩
  conv => pattern w.heap.size; rw [← e2]
  rw [← e2] at k3
  have lk : w.heap.size ≤ h2 := by omega
  have hn2 : h2 < w.heap.size + 1 := by omega
  obtain ⟨g3, e3⟩ : ∃ g, g = w.heap.size + 1 := ⟨_, rfl⟩
  rw [← e3] at hown4 hn2 ⊢
  have lg3 : w.heap.size < g3 := by omega
  have hg32 : g3 ≤ h2 + 1 := by omega
  clear e2 e3
  go_loopw [3, 5, 12] (fun v _ t wr => ∃ k : Nat, k ≤ n ∧ t = .int .i64 k ∧ wr.ownsRow g3 9 1 v k (lfR K l k) ∧ KH.Blk wr h2 141 #[.slice none 0 0, .slice none 0 0] ∧ Below w.heap.size w wr) (fun _ _ t _ => n - (intOf t).toNat)
  case atStart => exact ⟨0, Nat.zero_le _, rfl, hown4, k3, hb3⟩
  case round =>
    obtain ⟨k, hk, rfl, hown, hk2, hb⟩ := hrel
    clear hown4 k3 hb3
    have hsz := hb.size
    have hk2l := hk2.lt
    by_cases hlt : k < n
    · obtain ⟨ad, u, rfl, hbl, hu, hc⟩ := (HR.out.1.below (hb.mono hB)).at_ hlt
      rw [str_at (by rw [HR.out.2.2.2]; exact hlt)] at hu
      obtain rfl := (Option.some.inj hu).symm
      have HL := KH.hid (leaf_any K (l.getD k ⟨#[]⟩) wr (rounds_below HR.out.2.2.1 hb hg) (HR.out.2.1 _))
      have HSN := KH.hid (lf_snoc K (l := l) (k := k) (by rw [HR.out.2.2.2]; exact hlt))
      generalize lfV K (l.getD k ⟨#[]⟩) = sv at *
      generalize l.getD k ⟨#[]⟩ = s0 at *
      have i0' : (0 : Int) ≤ (k : Int) := by omega
      have i1 : (k : Int) < (n : Int) := by omega
      have d1 : decide ((k : Int) < (n : Int)) = true := by rw [decide_eq_true_iff]; omega
      go_wp2_with (first
        | (go_at_call 91; refine HL.out.mono ?_; rintro e w5 ⟨rfl, hb5⟩; have hs5 := hb5.size; have hown5 := KH.own_below hown hb5; have hk5 := hk2.below hb5 hk2.lt)
        | (at_builtin; refine KH.wpList_append_one rfl _ _ 30 rfl g3 9 i0 _ 16 Tryz.underlying30 hi hz0 hz1 hz2 rfl _ k _ rfl (hown5.alloc _) w5.heap.size 1 (.string sv) rfl ?c1 rfl ?c3 ?c4 ?c5 ?_))
      first | (case c1 => simp) | skip
      case c3 => unfold maxLen; omega
      case c4 => omega
      case c5 => first | omega | (simp; omega)
      intro v6 w6 hown6 hb6
      rw [← HSN.out] at hown6
      have hb26 := (hb.trans (hb5.mono hsz)).alloc (by omega) (.cells #[.string sv] 9) |>.trans (hb6.mono (by omega))
      have hk6 := (hk5.alloc (.cells #[.string sv] 9)).below hb6 hn2
      clear hown hown5 hb5 hb6 hk5 hb
      go_wp2_with fail
      exact ⟨⟨k + 1, by omega, by go_num, hown6, hk6, hb26⟩, by simp [intOf]; omega⟩
    · obtain rfl : k = n := by omega
      have d1 : decide ((k : Int) < (k : Int)) = false := by rw [decide_eq_false_iff_not]; omega
      obtain ⟨A3, c3, rfl⟩ := KH.own_form hown
      go_wp2_with fail
      have hA := KH.Blk.new (wr.alloc (.cells #[.slice A3 k c3] 30)) 141 #[.slice A k c, .slice (some ⟨wr.heap.size, 0, none⟩) 1 1]
      have hz1' : (wr.alloc (.cells #[.slice A3 k c3] 30)).heap.size = wr.heap.size + 1 := by simp
      rw [hz1'] at hA
      have hgr : g3 ≤ wr.heap.size := by have := hk2.lt; omega
      have hR0 : RowsAt ((wr.alloc (.cells #[.slice A3 k c3] 30)).alloc (.cells #[.slice A k c, .slice (some ⟨wr.heap.size, 0, none⟩) 1 1] 141)) g3 (wr.heap.size + 1) A3 c3 (l.map (lfV K)) := by
        have hl := HR.out.2.2.2
        refine ⟨A, k, c, wr.heap.size, 0, 1, [.slice A3 k c3], hA, by omega, by rw [List.length_map]; omega, ?_, by rw [List.length_map, hl]; rfl, ?_, ?_⟩
        · exact (World.ownsRow_lit wr _ 1 hgr (by unfold maxLen; omega) (by simp)).alloc _
        · rw [List.length_map, hl]
          rcases hown.2 with ⟨h1, h2⟩ | ⟨g', cap', cur, h1, _, _, h2, _⟩
          · omega
          · injection h1 with _ _ h1; omega
        · rw [List.length_map, hl, ← lfR_all, hl]
          exact (hown.alloc _).alloc _
      have hb2 := (hb.alloc hsz (.cells #[.slice A3 k c3] 30)).alloc (by rw [hz1']; omega) (.cells #[.slice A k c, .slice (some ⟨wr.heap.size, 0, none⟩) 1 1] 141)
      have hk3 := (hk2.alloc (.cells #[.slice A3 k c3] 30)).alloc (.cells #[.slice A k c, .slice (some ⟨wr.heap.size, 0, none⟩) 1 1] 141)
      have hlen : 1 ≤ (l.map (lfV K)).length := by rw [List.length_map, HR.out.2.2.2]; exact h1
      have hroot : rtF K (l.map (lfV K)).length (l.map (lfV K)) = rootV K l := by unfold rootV; rw [List.length_map]
      have HI0 : Hid (RowsAt ((wr.alloc (.cells #[.slice A3 k c3] 30)).alloc (.cells #[.slice A k c, .slice (some ⟨wr.heap.size, 0, none⟩) 1 1] 141)) g3 (wr.heap.size + 1) A3 c3 (l.map (lfV K)) ∧ rtF K (l.map (lfV K)).length (l.map (lfV K)) = rootV K l ∧ ∀ x ∈ (l.map (lfV K)), x.size = 32) := ⟨hR0, hroot, lfs_size K l⟩
      clear hA hz1' hR0 hroot hb hk2 hown
      generalize l.map (lfV K) = L0 at *
      generalize (wr.alloc (.cells #[.slice A3 k c3] 30)).alloc (.cells #[.slice A k c, .slice (some ⟨wr.heap.size, 0, none⟩) 1 1] 141) = W0 at *
      generalize wr.heap.size + 1 = h6 at *
      go_loopw [26] (fun _ wx => ∃ AT cT L, 1 ≤ L.length ∧ Hid (RowsAt wx g3 h6 AT cT L ∧ rtF K L.length L = rootV K l ∧ ∀ x ∈ L, x.size = 32) ∧ KH.Blk wx h2 141 #[.slice none 0 0, .slice none 0 0] ∧ Below w.heap.size w wx) (fun _ wx => topLen wx h6)
      case atStart => exact ⟨A3, c3, L0, hlen, HI0, hk3, hb2⟩
      case round =>
        obtain ⟨AT, cT, L, hL1, HI, hk4, hb4⟩ := hrel
        clear HI0 hk3 hb2 hlen
        have HM := KH.hid (topLen_eq HI.out.1)
        have hgx := HI.out.1
        have hh6 : h6 < wr.heap.size := by obtain ⟨_, _, _, _, _, _, _, hk, _⟩ := hgx; exact hk.lt
        by_cases hlt : 1 < L.length
        · have HT := KH.hid (top_any HI.out.1)
          have HS := KH.hid fun q => rise_any K (w := wr.drewN q) (HI.out.1) (rounds_below HR.out.2.2.1 (below_drewN hb4 q) hg) (by omega) hlt HI.out.2.2
          have HUP := KH.hid (And.intro (rtF_up K hlt) (upL_length K L))
          have d1 : decide ((1 : Int) < (L.length : Int)) = true := by rw [decide_eq_true_iff]; omega
          have hs4 := hb4.size
          go_wp2_with (first
            | (go_at_call 92; refine HT.out.mono ?_; rintro e w5 ⟨rfl, q, rfl⟩)
            | (go_at_call 93; refine (HS.out q).mono ?_; rintro e w7 ⟨rfl, ⟨AT', cT', hR7⟩, hb7⟩))
          have hk7 := hk4.drewN q |>.below hb7 (by omega)
          have hb8 := (below_drewN hb4 q).trans (hb7.mono (by omega))
          have HM7 := topLen_eq hR7
          have hU := HUP.out.2
          exact ⟨⟨AT', cT', upL K L, by omega, ⟨hR7, HUP.out.1.symm.trans HI.out.2.1, upI_size _ _ _⟩, hk7, hb8⟩, by rw [HM7, HM.out]; omega⟩
        · have hL : L = [rootV K l] := by
            have e1 := HI.out.2.1
            rw [rtF_one K _ (by omega)] at e1
            match L, hL1, hlt with
            | [x], _, _ => rw [← e1]; rfl
            | x :: y :: r, _, h => exact absurd (by simp) h
          have HT := KH.hid (top_any HI.out.1)
          have d1 : decide ((1 : Int) < (L.length : Int)) = false := by rw [decide_eq_false_iff_not]; omega
          obtain ⟨A1, n1, c1, s, m, c2, xs, hk, hh1, hm, ho, hx, hlc, hoT⟩ := hgx
          have f0 : wr.cell? ⟨h6, 0, none⟩ = some (.slice A1 n1 c1) := hk.cell 0
          have f1 : wr.cell? ⟨h6, 1, none⟩ = some (.slice (some ⟨s, 0, none⟩) (m + 1) c2) := hk.cell 1
          have f2 : wr.cell? ⟨h2, 0, none⟩ = some (.slice none 0 0) := hk4.cell 0
          have f3 : wr.cell? ⟨h2, 1, none⟩ = some (.slice none 0 0) := hk4.cell 1
          have f4 : wr.frozen? ⟨h2, 0, none⟩ = false := hk4.frozen 0
          have f5 : wr.frozen? ⟨h2, 1, none⟩ = false := hk4.frozen 1
          have HF := KH.hid (And.intro hk (And.intro ho (And.intro hx (And.intro hoT (And.intro hk4 hb4)))))
          clear hk ho hx hoT hk4 hb4 HM HI
          go_wp2_with (first
            | (go_at_call 92; refine HT.out.mono ?_; rintro e w5 ⟨rfl, q, rfl⟩; have g0 : (wr.drewN q).cell? ⟨h6, 0, none⟩ = some (.slice A1 n1 c1) := f0; have g1 : (wr.drewN q).cell? ⟨h6, 1, none⟩ = some (.slice (some ⟨s, 0, none⟩) (m + 1) c2) := f1; have g2 : (wr.drewN q).cell? ⟨h2, 0, none⟩ = some (.slice none 0 0) := f2; have g4 : (wr.drewN q).cell? ⟨h2, 1, none⟩ = some (.slice none 0 0) := f3; have g5 : (wr.drewN q).frozen? ⟨h2, 0, none⟩ = false := f4; have g6 : (wr.drewN q).frozen? ⟨h2, 1, none⟩ = false := f5))
          obtain ⟨hk, ho, hx, hoT, hk4, hb4⟩ := HF.out
          have n26 : h2 ≠ h6 := by omega
          have k2 := ((hk4.drewN q).set_ 0 (.slice A1 n1 c1)).set_ 1 (.slice (some ⟨s, 0, none⟩) (m + 1) c2)
          have hb5 := ((below_drewN hb4 q).setCell (p := ⟨h2, 0, none⟩) lk (.slice A1 n1 c1)).setCell (p := ⟨h2, 1, none⟩) lk (.slice (some ⟨s, 0, none⟩) (m + 1) c2)
          have ho5 := ownsRow_setCell_other (a := ⟨h2, 1, none⟩) (ownsRow_setCell_other (a := ⟨h2, 0, none⟩) (w := wr.drewN q) ho (fun e => by have := (ho.lt h2 e).1; omega) (.slice A1 n1 c1)) (fun e => by have := (ho.lt h2 e).1; omega) (.slice (some ⟨s, 0, none⟩) (m + 1) c2)
          have hT5 := ownsRow_setCell_other (a := ⟨h2, 1, none⟩) (ownsRow_setCell_other (a := ⟨h2, 0, none⟩) (w := wr.drewN q) hoT (fun e => by have := (hoT.lt h2 e).1; omega) (.slice A1 n1 c1)) (fun e => by have := (hoT.lt h2 e).1; omega) (.slice (some ⟨s, 0, none⟩) (m + 1) c2)
          generalize ((wr.drewN q).setCell ⟨h2, 0, none⟩ (.slice A1 n1 c1)).setCell ⟨h2, 1, none⟩ (.slice (some ⟨s, 0, none⟩) (m + 1) c2) = W at *
          have c0 : W.cell? ⟨h2, 0, none⟩ = some (.slice A1 n1 c1) := by simpa using k2.cell 0
          have c1' : W.cell? ⟨h2, 1, none⟩ = some (.slice (some ⟨s, 0, none⟩) (m + 1) c2) := by simpa using k2.cell 1
          have hw0 := hb5.size
          subst hL
          refine bodyPost_ret (load_rows rfl (by rfl) c0 c1') rfl ⟨_, _, _, _, _, _, AT, cT, rfl, ⟨A1, n1, c1, s, m, c2, xs, KH.Blk.new _ _ _, hw0, hm, World.ownsRow.mono (ho5.alloc _) (by omega), hx, hlc, World.ownsRow.mono (hT5.alloc _) (by omega)⟩, hb5⟩
set_option maxRecDepth 100000 in
theorem troot_any (K : Nat → Nat) {w : World} {B n c : Nat} {A : Option Addr} {l : List ByteArray} (hr : KH.Reads w B 1 A n (l.map .string)) (hB : B ≤ w.heap.size) (hn : cntB n = true) (hs : ∀ i, (l.getD i ⟨#[]⟩).size ≤ 100000) (hK : RoundsAt K w) :
    Calls Tryz.prog 51 #[.slice A n c] w fun e w' => e = .returned (.tuple #[.string (rootV K l), .int .i64 0]) ∧ Below w.heap.size w w' := by
  have hn' : 1 ≤ n ∧ n ≤ 64 := by obtain ⟨m, hm, h⟩ := cntB_nat hn; omega
  have HM := KH.hid (mayRoot_yes n w hn)
  have HRO := KH.hid (rowsOf_any K (c := c) hr hB hn'.1 hn'.2 hs hK)
  clear hr hs hn hn' hK
  go_enter Tryz.func51, Tryz.ntmps51
  go_wp2_with fail
  refine HM.out.mono ?_; rintro e w1 ⟨rfl, rfl⟩
  go_wp2_with fail
  refine HRO.out.mono ?_; rintro e w2 ⟨A1, n1, c1, A2, n2, c2, AT, cT, rfl, hR, hb⟩
  have HRT := KH.hid (root_any hR (by simp))
  have hb2 := hb.alloc hb.size (.cells #[.slice A1 n1 c1, .slice A2 n2 c2] 141)
  clear hR hb
  go_wp2_with fail
  refine HRT.out.mono ?_; rintro e w3 ⟨rfl, q, rfl⟩
  go_wp2
  go_ret2
  exact ⟨rfl, below_drewN hb2 q⟩
end Go.Proofs.YtlnilfcjcoclhaaGreatDoor
