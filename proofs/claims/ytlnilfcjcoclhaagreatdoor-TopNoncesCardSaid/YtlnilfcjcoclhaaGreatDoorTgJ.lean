import Derived.Test.YtlnilfcjcoclhaaGreatDoorTgF
/- Package tag: digitsOf, Clamp. -/
namespace Go.Proofs.YtlnilfcjcoclhaaGreatDoor
open Go.RowKit

def dgF (s : ByteArray) (c o : Nat) : Nat := if o < s.size then sb s o else c
theorem bzW_snoc (n : Nat) (F : Nat → Nat) : bzW (n + 1) F = bzW n F ++ [.int .i64 (F n : Nat)] := by
  unfold bzW; rw [List.range_succ, List.map_append]; rfl
theorem own_cap {w : World} {base : Nat} {e : TypeId} {size n : Nat} {v : Value} {xs : List Value} (h : w.ownsRow base e size v n xs) (hn : 0 < n) : ∃ g cap, v = .slice (some ⟨g, 0, none⟩) n cap ∧ n ≤ cap := by
  rcases h.2 with ⟨_, h0⟩ | ⟨g, cap, _, rfl, _, _, hc, _⟩
  · omega
  · exact ⟨g, cap, rfl, hc⟩
set_option maxHeartbeats 1000000 in
set_option maxRecDepth 100000 in
theorem digitsOf_any (s : ByteArray) (c B cap : Nat) (A : Option Addr) (w : World) (hs : s.size ≤ 16) (hB : B ≤ w.heap.size) (hr : KH.Reads w B 1 A 1 [.int .i64 (c : Nat)]) :
    Calls Tryz.prog 97 #[.string s, .slice A 1 cap] w fun e w' => ∃ A' cap', e = .returned (.slice A' (s.size + 1) cap') ∧ s.size + 1 ≤ cap' ∧ KH.Reads w' w'.heap.size 1 A' (s.size + 1) (bzW (s.size + 1) (dgF s c)) ∧ Below w.heap.size w w' := by
  obtain ⟨i0, hi, hz0, hz1, hz2⟩ := info_parts int_info
  have HR := KH.hid hr
  clear hr
  go_enter Tryz.func97, Tryz.ntmps97
  go_wp2_with (at_make; refine wpList_make_own _ rfl _ _ 29 rfl w.heap.size 3 i0 (.int .i64 0) 1 Tryz.underlying29 hi hz0 hz1 .i64 .i64 _ 17 rfl rfl rfl (by rw [hz2]; omega) (by unfold maxLen; omega) (Nat.le_refl _) ?_; intro w3 hown3 hg3)
  have hb3 : Below w.heap.size w w3 := (Below.refl _ _).grown hg3 (Nat.le_refl _) (fun _ h => by cases h)
  have hown4 : w3.ownsRow w.heap.size 3 1 (.slice (some ⟨w.heap.size, 0, none⟩) 0 17) 0 (bzW 0 (dgF s c)) := hown3
  clear hg3 hown3
  go_loopw [5, 6, 10] (fun v _ t wr => ∃ k : Nat, k ≤ s.size ∧ t = .int .i64 k ∧ wr.ownsRow w.heap.size 3 1 v k (bzW k (dgF s c)) ∧ Below w.heap.size w wr) (fun _ _ t _ => s.size - (intOf t).toNat)
  case atStart => exact ⟨0, Nat.zero_le _, rfl, hown4, hb3⟩
  case round =>
    obtain ⟨k, hk, rfl, hown, hb⟩ := hrel
    clear hown4 hb3
    have hsz := hb.size
    by_cases hlt : k < s.size
    · have HS : Hid (bzW (k + 1) (dgF s c) = bzW k (dgF s c) ++ [.int .i64 ((s[k]'hlt).toNat : Nat)]) := by
        unfold Hid
        rw [bzW_snoc]
        have : dgF s c k = sb s k := by unfold dgF; rw [if_pos hlt]
        rw [this, ← sb_get s k hlt]
      have hsk : (s[k]'hlt).toNat < 256 := UInt8.toNat_lt _
      obtain ⟨A1, c1, rfl⟩ := KH.own_form hown
      have k0 : (0 : Int) ≤ (k : Int) := by omega
      have k1 : (k : Int) < (s.size : Int) := by omega
      go_wp2_with (at_builtin; refine KH.wpList_append_one rfl (.tmp 13) (.tmp 18) 29 rfl w.heap.size 3 i0 _ 8 Tryz.underlying29 hi hz0 hz1 hz2 rfl _ k _ rfl (hown.alloc _) wr.heap.size 1 (.int .i64 ((s[k]'hlt).toNat : Nat)) rfl ?c1 rfl ?c3 ?c4 ?c5 ?_)
      first | (case c1 => simp) | skip
      case c3 => unfold maxLen; omega
      case c4 => omega
      case c5 => first | omega | (simp; omega)
      intro v1 w1' hown1 hb1
      have hb2 := (hb.alloc hsz (.cells #[.int .i64 ((s[k]'hlt).toNat : Nat)] 3)).trans hb1
      rw [← HS.out] at hown1
      clear hown hb
      go_wp2_with fail
      exact ⟨⟨k + 1, by omega, by go_num, hown1, hb2⟩, by simp [intOf]; omega⟩
    · obtain rfl : k = s.size := by omega
      obtain ⟨A1, c1, rfl⟩ := KH.own_form hown
      have hrr := HR.out.keep (fun p hp => hb.cell (p := p) (by omega))
      have HS : Hid (bzW (s.size + 1) (dgF s c) = bzW s.size (dgF s c) ++ [.int .i64 (c : Nat)]) := by
        unfold Hid
        rw [bzW_snoc]
        have : dgF s c s.size = c := by unfold dgF; rw [if_neg (by omega)]
        rw [this]
      have dn : decide ((s.size : Int) < (s.size : Int)) = false := by rw [decide_eq_false_iff_not]; omega
      go_wp2_with (at_builtin; (refine KH.wpList_append_any _ rfl (.tmp 21) (.tmp 22) 29 rfl w.heap.size 3 i0 (.int .i64 0) 1 8 Tryz.underlying29 hi hz0 hz1 hz2 rfl (by omega) _ s.size _ rfl hown B A 1 cap [.int .i64 (c : Nat)] rfl hrr (by intro u hu; simp at hu; subst hu; rfl) (by unfold maxLen; omega) (by omega) hsz ?_; intro v1 w1' hown1 hg1 hv1))
      have hb1 : Below w.heap.size w w1' := hb.trans ((Below.refl _ _).grown hg1 hsz fun k hk => (hown.lt k hk).1)
      rw [← HS.out] at hown1
      obtain ⟨g, cp, rfl, hg⟩ := own_cap hown1 (by omega)
      have HRR := KH.hid (KH.Reads.of_own hown1)
      clear hown hb hrr
      go_wp2_with fail
      exact bodyPost_ret (v := .slice (some ⟨g, 0, none⟩) (s.size + 1) cp) (by simp [results, Tryz.results97, go_sem]) rfl ⟨_, _, rfl, by omega, HRR.out, hb1⟩
theorem cellN {w : World} {g p n : Nat} {t : TypeId} {F : Nat → Nat} (h : KH.Blk w g t (bzW n F).toArray) (hp : p < n) : w.cell? ⟨g, p, none⟩ = some (.int .i64 (F p : Nat)) := (h.cell p).trans ((List.getElem?_toArray).trans (bzW_get _ hp))
theorem sb_lt' (s : ByteArray) (o : Nat) : sb s o < 256 := sb_lt s o
/-- a key's first half, clamped -/
def clF (r : ByteArray) (o : Nat) : Nat := if o = 3 ∨ o = 7 ∨ o = 11 ∨ o = 15 then sb r o % 16 else if o = 4 ∨ o = 8 ∨ o = 12 then sb r o - sb r o % 4 else sb r o
def clV (r : ByteArray) : ByteArray := tx 16 (clF r)
def clI (r : ByteArray) (i k o : Nat) : Nat := if (o % 4 = 3 ∧ o / 4 < i) then sb r o % 16 else if (o % 4 = 0 ∧ 1 ≤ o / 4 ∧ o / 4 < k + 1) then sb r o - sb r o % 4 else sb r o
set_option maxHeartbeats 1000000 in
set_option maxRecDepth 100000 in
theorem clamp_any (r : ByteArray) (w : World) (hs : r.size = 16) :
    Calls Tryz.prog 96 #[.string r] w fun e w' => e = .returned (.tuple #[.string (clV r), .bool true]) ∧ Below w.heap.size w w' := by
  have hcv : ∀ w, (convert 9 84 (.string r)).run Tryz.prog w = .ok (.slice (some ⟨w.heap.size, 0, none⟩) r.size (grownCap w r.size 0 5)) (Lib.bytesWorld w 5 r) :=
    fun w => Lib.run_convert_string_bytes w _ _ _ r Tryz.underlying9 Tryz.underlying84 Tryz.underlying5
  have d1 : ((r.size : Int) != 16) = false := by rw [hs]; rfl
  go_enter Tryz.func96, Tryz.ntmps96
  go_wp2_with fail
  generalize grownCap _ _ _ _ = cap
  have hby := ByAt.start r w 5
  have hbw := bytesWorld_below w 5 r
  have hsz3 := Lib.bytesWorld_size w 5 r
  rw [hs] at hby
  have hbl := hbw.alloc (by omega) (.cells #[.int .i64 3, .int .i64 7, .int .i64 11, .int .i64 15] 3)
  have hlt := KH.Blk.new (Lib.bytesWorld w 5 r) 3 #[.int .i64 3, .int .i64 7, .int .i64 11, .int .i64 15]
  rw [show (#[.int .i64 3, .int .i64 7, .int .i64 11, .int .i64 15] : Array Value) = (bzW 4 fun i => 4 * i + 3).toArray by kernel_rfl] at hlt
  have hby2 := hby.below ((Below.refl (Lib.bytesWorld w 5 r).heap.size _).alloc (Nat.le_refl _) (.cells #[.int .i64 3, .int .i64 7, .int .i64 11, .int .i64 15] 3)) (by omega)
  rw [show (#[.int .i64 3, .int .i64 7, .int .i64 11, .int .i64 15] : Array Value) = (bzW 4 fun i => 4 * i + 3).toArray by kernel_rfl] at hbl hby2
  rw [show (#[.int .i64 3, .int .i64 7, .int .i64 11, .int .i64 15] : Array Value) = (bzW 4 fun i => 4 * i + 3).toArray by kernel_rfl]
  rw [hsz3] at hlt
  conv => pattern (Lib.bytesWorld w 5 r).heap.size; rw [hsz3]
  clear hby hbw
  generalize (Lib.bytesWorld w 5 r).alloc _ = W at *
  obtain ⟨gb, hgb⟩ : ∃ g, g = w.heap.size := ⟨_, rfl⟩
  obtain ⟨gl, hgl⟩ : ∃ g, g = w.heap.size + 1 := ⟨_, rfl⟩
  rw [← hgl] at hlt ⊢
  conv => pattern w.heap.size; rw [← hgb]
  rw [← hgb] at hby2
  have ngl : gl ≠ gb := by omega
  have lgl : gb < gl := by omega
  have lgb : w.heap.size ≤ gb := by omega
  clear hsz3 hcv d1 hgb hgl
  have hI0 : ByAt 16 (clI r 0 0) gb W := hby2.congr fun o ho => by unfold clI; rw [if_neg (by omega), if_neg (by omega)]
  clear hby2
  go_loopw [6, 16] (fun _ t wr => ∃ i : Nat, i ≤ 4 ∧ t = .int .i64 i ∧ ByAt 16 (clI r i 0) gb wr ∧ Hid (KH.Blk wr gl 3 (bzW 4 fun i => 4 * i + 3).toArray ∧ Below w.heap.size w wr)) (fun _ t _ => 4 - (intOf t).toNat)
  case atStart => exact ⟨0, Nat.zero_le _, rfl, hI0, hlt, hbl⟩
  case round =>
    obtain ⟨i, hi, rfl, hba, hI⟩ := hrel
    clear hI0 hlt hbl
    by_cases hil : i < 4
    · have hc := hba.cell (4 * i + 3) (by omega)
      have hf := hba.free (4 * i + 3) (by omega)
      have hcl := cellN hI.out.1 hil
      have hv : clI r i 0 (4 * i + 3) = sb r (4 * i + 3) := by unfold clI; rw [if_neg (by omega), if_neg (by omega)]
      rw [hv] at hc
      have hN := (hba.set (v := sb r (4 * i + 3) % 16) (show 4 * i + 3 < 16 by omega)).congr (G := clI r (i + 1) 0) fun o ho => by
        unfold clI
        by_cases e : o = 4 * i + 3
        · subst e; rw [if_pos rfl, if_pos (by omega)]
        · rw [if_neg e]
          by_cases h : o % 4 = 3 ∧ o / 4 < i
          · rw [if_pos h, if_pos (by omega)]
          · rw [if_neg h, if_neg (by omega : ¬(o % 4 = 3 ∧ o / 4 < i + 1))]
      have HN := KH.hid (And.intro hN (And.intro (hI.out.1.far (p := ⟨gb, 4 * i + 3, none⟩) ngl (.int .u8 (sb r (4 * i + 3) % 16 : Nat))) (hI.out.2.setCell (p := ⟨gb, 4 * i + 3, none⟩) lgb (.int .u8 (sb r (4 * i + 3) % 16 : Nat)))))
      have hb8 := sb_lt r (4 * i + 3)
      have i0 : (0 : Int) ≤ (i : Int) := by omega
      have i1 : (i : Int) < 4 := by omega
      have d4 : decide ((i : Int) < 4) = true := by rw [decide_eq_true_iff]; omega
      clear hba hI hN hv
      generalize sb r (4 * i + 3) = x at *
      obtain ⟨m, hm⟩ : ∃ m, m = 4 * i + 3 := ⟨_, rfl⟩
      rw [← hm] at hc hf hcl HN
      have m0 : (0 : Int) ≤ (m : Int) := by omega
      have m1 : (m : Int) < 16 := by omega
      clear hm
      rw [show ((x % 16 : Nat) : Int) = (x : Int) % 16 by omega] at HN
      go_wp2_with fail
      exact ⟨⟨i + 1, by omega, by go_num, HN.out.1, HN.out.2⟩, by simp [intOf]; omega⟩
    · obtain rfl : i = 4 := by omega
      have hb := hI.out.2
      have hsz := hb.size
      have hgs : gb < wr.heap.size := Nat.lt_trans lgl hI.out.1.lt
      have hbl := hb.alloc (by omega) (.cells #[.int .i64 4, .int .i64 8, .int .i64 12] 3)
      have hlt := KH.Blk.new wr 3 #[.int .i64 4, .int .i64 8, .int .i64 12]
      have hby2 := hba.below ((Below.refl wr.heap.size _).alloc (Nat.le_refl _) (.cells #[.int .i64 4, .int .i64 8, .int .i64 12] 3)) hgs
      have el : (#[.int .i64 4, .int .i64 8, .int .i64 12] : Array Value) = (bzW 3 fun i => 4 * i + 4).toArray := by kernel_rfl
      rw [el] at hlt hbl hby2
      clear hba hI hb
      rw [show ((4 : Nat) : Int) = (4 : Int) from rfl]
      go_wp2_with fail
      clear el
      obtain ⟨g2, hg2⟩ : ∃ g, g = wr.heap.size := ⟨_, rfl⟩
      rw [← hg2] at hlt ⊢
      have ng2 : g2 ≠ gb := by omega
      clear hg2 hgs hsz
      generalize wr.alloc _ = W2 at *
      go_loopw [8, 29] (fun _ t wr => ∃ i : Nat, i ≤ 3 ∧ t = .int .i64 i ∧ ByAt 16 (clI r 4 i) gb wr ∧ Hid (KH.Blk wr g2 3 (bzW 3 fun i => 4 * i + 4).toArray ∧ Below w.heap.size w wr)) (fun _ t _ => 3 - (intOf t).toNat)
      case atStart => exact ⟨0, Nat.zero_le _, rfl, hby2, hlt, hbl⟩
      case round =>
        obtain ⟨i, hi, rfl, hba, hI⟩ := hrel
        clear hby2 hlt hbl
        by_cases hil : i < 3
        · have hc := hba.cell (4 * i + 4) (by omega)
          have hf := hba.free (4 * i + 4) (by omega)
          have hcl := cellN hI.out.1 hil
          have hv : clI r 4 i (4 * i + 4) = sb r (4 * i + 4) := by unfold clI; rw [if_neg (by omega), if_neg (by omega)]
          rw [hv] at hc
          have hN := (hba.set (v := sb r (4 * i + 4) - sb r (4 * i + 4) % 4) (show 4 * i + 4 < 16 by omega)).congr (G := clI r 4 (i + 1)) fun o ho => by
            unfold clI
            by_cases e : o = 4 * i + 4
            · subst e; rw [if_pos rfl, if_neg (by omega), if_pos (by omega)]
            · rw [if_neg e]
              by_cases h3 : o % 4 = 3 ∧ o / 4 < 4
              · rw [if_pos h3, if_pos h3]
              · rw [if_neg h3, if_neg h3]
                by_cases h : o % 4 = 0 ∧ 1 ≤ o / 4 ∧ o / 4 < i + 1
                · rw [if_pos h, if_pos (by omega)]
                · rw [if_neg h, if_neg (by omega : ¬(o % 4 = 0 ∧ 1 ≤ o / 4 ∧ o / 4 < i + 1 + 1))]
          have HN := KH.hid (And.intro hN.drew (And.intro (hI.out.1.far (p := ⟨gb, 4 * i + 4, none⟩) ng2 (.int .u8 (sb r (4 * i + 4) - sb r (4 * i + 4) % 4 : Nat))).drew (hI.out.2.setCell (p := ⟨gb, 4 * i + 4, none⟩) lgb (.int .u8 (sb r (4 * i + 4) - sb r (4 * i + 4) % 4 : Nat))).drew))
          have hb8 := sb_lt r (4 * i + 4)
          have i0 : (0 : Int) ≤ (i : Int) := by omega
          have i1 : (i : Int) < 3 := by omega
          have d4 : decide ((i : Int) < 3) = true := by rw [decide_eq_true_iff]; omega
          clear hba hI hN hv
          generalize sb r (4 * i + 4) = x at *
          obtain ⟨m, hm⟩ : ∃ m, m = 4 * i + 4 := ⟨_, rfl⟩
          rw [← hm] at hc hf hcl HN
          have m0 : (0 : Int) ≤ (m : Int) := by omega
          have m1 : (m : Int) < 16 := by omega
          clear hm
          rw [show ((x - x % 4 : Nat) : Int) = (x : Int) - (x : Int) % 4 by omega] at HN
          go_wp2_with fail
          refine wp_region_still_tail 11 (by kernel_rfl) (by kernel_rfl) ?_
          simp only [List.take_succ_cons, List.take_zero, List.drop_succ_cons, List.drop_zero]
          repeat still_step
          refine wpStill_nil ?_
          go_wp2_with fail
          exact ⟨⟨i + 1, by omega, by go_num, HN.out.1, HN.out.2⟩, by simp [intOf]; omega⟩
        · obtain rfl : i = 3 := by omega
          have hback := (hba.congr (G := clF r) fun o ho => by
            unfold clI clF
            by_cases h3 : o % 4 = 3
            · rw [if_pos (by omega), if_pos (by omega)]
            · rw [if_neg (by omega : ¬(o % 4 = 3 ∧ o / 4 < 4)), if_neg (by omega : ¬(o = 3 ∨ o = 7 ∨ o = 11 ∨ o = 15))]
              by_cases h4 : o % 4 = 0 ∧ 1 ≤ o / 4
              · rw [if_pos (by omega), if_pos (by omega)]
              · rw [if_neg (by omega), if_neg (by omega)]).back (cap := cap)
          have HC : Hid (clV r = tx 16 (clF r)) := rfl
          rw [← HC.out] at hback
          have hb := hI.out.2
          clear hba hI
          rw [show ((3 : Nat) : Int) = (3 : Int) from rfl]
          go_wp2_with fail
          go_ret2
          exact ⟨rfl, hb⟩
end Go.Proofs.YtlnilfcjcoclhaaGreatDoor
/- Package tag: Step. -/
namespace Go.Proofs.YtlnilfcjcoclhaaGreatDoor
open Go.RowKit

/-- the row behind a part -/
def stI (A R : Nat → Nat) (part : ByteArray) : Nat → Nat := lftV (tiS (fun q => rdS A 17 q + rdS (dgF part 1) (part.size + 1) q) (rdS R 17) 5)
def stV (A R : Nat → Nat) (part : ByteArray) : Nat → Nat := digV (finV (stI A R part))
theorem dgF_lt {s : ByteArray} {c : Nat} (hc : c < 256) (o : Nat) : dgF s c o < 256 := by
  unfold dgF; split
  · exact sb_lt _ _
  · exact hc
theorem lftV_low {F : Nat → Nat} : ∀ p, p < 5 → lftV F p < 67108864 := by
  intro p hp
  have key : ∀ j, (ovr F j = 0 ∧ j ≤ numV F + 1) ∨ (ovr F j ≠ 0 ∧ numV (pasN F j) + j ≤ numV F) ∨ ∃ i, i < j ∧ ovr F i = 0 ∧ i ≤ numV F + 1 := by
    intro j
    induction j with
    | zero => exact .inr (.inl ⟨by show (1 : Nat) ≠ 0; omega, by show numV F + 0 ≤ _; omega⟩)
    | succ j ih =>
      rcases ih with h | ⟨h, h2⟩ | ⟨i, h1, h2⟩
      · exact .inr (.inr ⟨j, by omega, h⟩)
      · have hq := numV_pas (pasN F j)
        have e1 : ovr F (j + 1) = cF (pasN F j) 5 := rfl
        have e2 : pasN F (j + 1) = pas (pasN F j) := rfl
        by_cases h0 : ovr F (j + 1) = 0
        · exact .inl ⟨h0, by omega⟩
        · rw [e1] at h0
          exact .inr (.inl ⟨by rw [e1]; exact h0, by rw [e2]; omega⟩)
      · exact .inr (.inr ⟨i, by omega, h2⟩)
  have fin : ∀ j, ovr F j = 0 → j ≤ numV F + 1 → lftV F p < 67108864 := fun j ho hj => by
    have h := pasN_stay ho (numV F + 1 - j) p hp
    rw [show j + (numV F + 1 - j) = numV F + 1 by omega] at h
    rw [show lftV F p = pasN F (numV F + 1) p from rfl, h]
    exact pasN_low ho p
  rcases key (numV F + 2) with ⟨h, h2⟩ | ⟨h, h2⟩ | ⟨i, h1, h2, h3⟩
  · exact fin _ h h2
  · omega
  · exact fin i h2 h3
theorem stV_row (A R : Nat → Nat) (part : ByteArray) : RowOk (stV A R part) := row_fin lftV_low
theorem stI_in {A R : Nat → Nat} {part : ByteArray} (hA : RowOk A) (hR : RowOk R) (hp : part.size ≤ 16) :
    (∀ p, p < 5 → rdS A 17 p ≤ 300000000) ∧ (∀ p, p < 5 → rdS (dgF part 1) (part.size + 1) p ≤ 300000000) ∧ (∀ p, p < 5 → rdS R 17 p ≤ 300000000) :=
  ⟨fun p hp => rdS_le (by omega) hA.1 p hp, fun p hp => rdS_le (by omega) (fun o _ => dgF_lt (by omega) o) p hp, fun p hp => rdS_le (by omega) hR.1 p hp⟩
theorem put5 {w : World} {h : Nat} {t : TypeId} {G : Nat → Nat} (F : Nat → Nat) (hk : KH.Blk w h t (S5 G)) : KH.Blk (((((w.setCell ⟨h, 0, none⟩ (.int .i64 (F 0 : Nat))).setCell ⟨h, 1, none⟩ (.int .i64 (F 1 : Nat))).setCell ⟨h, 2, none⟩ (.int .i64 (F 2 : Nat))).setCell ⟨h, 3, none⟩ (.int .i64 (F 3 : Nat))).setCell ⟨h, 4, none⟩ (.int .i64 (F 4 : Nat))) h t (S5 F) := by
  have h5 := set5 (p := 4) (v := F 4) (set5 (p := 3) (v := F 3) (set5 (p := 2) (v := F 2) (set5 (p := 1) (v := F 1) (set5 (p := 0) (v := F 0) hk))))
  rwa [S5_congr (G := F) fun p hp => by
    match p, hp with
    | 0, _ => rfl
    | 1, _ => rfl
    | 2, _ => rfl
    | 3, _ => rfl
    | 4, _ => rfl] at h5
theorem below5 {w0 w : World} {h B : Nat} (F : Nat → Nat) (hB : Below B w0 w) (hh : B ≤ h) : Below B w0 (((((w.setCell ⟨h, 0, none⟩ (.int .i64 (F 0 : Nat))).setCell ⟨h, 1, none⟩ (.int .i64 (F 1 : Nat))).setCell ⟨h, 2, none⟩ (.int .i64 (F 2 : Nat))).setCell ⟨h, 3, none⟩ (.int .i64 (F 3 : Nat))).setCell ⟨h, 4, none⟩ (.int .i64 (F 4 : Nat))) :=
  ((((hB.setCell (p := ⟨h, 0, none⟩) hh (.int .i64 (F 0 : Nat))).setCell (p := ⟨h, 1, none⟩) hh (.int .i64 (F 1 : Nat))).setCell (p := ⟨h, 2, none⟩) hh (.int .i64 (F 2 : Nat))).setCell (p := ⟨h, 3, none⟩) hh (.int .i64 (F 3 : Nat))).setCell (p := ⟨h, 4, none⟩) hh (.int .i64 (F 4 : Nat))
set_option maxHeartbeats 1000000 in
set_option maxRecDepth 100000 in
theorem tstep_any {A R : Nat → Nat} {part : ByteArray} {B c1 c2 : Nat} {A1 A2 : Option Addr} (w : World) (hB : B ≤ w.heap.size) (h1 : KH.Reads w B 1 A1 17 (bzW 17 A)) (h2 : KH.Reads w B 1 A2 17 (bzW 17 R)) (hc1 : 17 ≤ c1) (hc2 : 17 ≤ c2) (hA : RowOk A) (hR : RowOk R) (hp0 : 0 < part.size) (hp : part.size ≤ 16) :
    Calls Tryz.prog 99 #[.slice A1 17 c1, .slice A2 17 c2, .string part] w fun e w' => ∃ A', e = .returned (.tuple #[.slice A' 17 17, .bool true]) ∧ KH.Reads w' w'.heap.size 1 A' 17 (bzW 17 (stV A R part)) ∧ Below w.heap.size w w' := by
  obtain ⟨b1, b2, b3⟩ := stI_in (part := part) hA hR hp
  have d1 : decide ((part.size : Int) < 1) = false := by rw [decide_eq_false_iff_not]; omega
  have d2 : decide ((16 : Int) < (part.size : Int)) = false := by rw [decide_eq_false_iff_not]; omega
  go_enter Tryz.func99, Tryz.ntmps99
  go_wp2_with fail
  refine (isRow_yes w h1 hc1 hA).mono ?_; rintro e w1 ⟨rfl, rfl⟩
  go_wp2_with fail
  refine (isRow_yes w1 h2 hc2 hR).mono ?_; rintro e w2 ⟨rfl, rfl⟩
  go_wp2_with fail
  refine (rdd_any (cap := c1) w2 hB h1 (by omega) hA.1).mono ?_; rintro e w3 ⟨rfl, hb3⟩
  have hz3 := hb3.size
  go_wp2_with fail
  have hlit := reads_lit w3 [(1 : Int)] 3 w3.heap.size rfl
  have hb4 := hb3.alloc hz3 (.cells #[.int .i64 1] 3)
  have hb4' : Below w2.heap.size w2 (w3.alloc (.cells #[.int .i64 1] 3)) := hb4
  refine (digitsOf_any part 1 _ 1 _ _ hp (by simp) hlit).mono ?_; rintro e w5 ⟨A5, cap5, rfl, hcap5, hr5, hb5⟩
  have hb5' := hb4.trans (hb5.mono hb4.size)
  have hz5 := hb5'.size
  go_wp2_with fail
  refine (rdd_any (cap := cap5) w5 (Nat.le_refl _) hr5 (by omega) (fun o _ => dgF_lt (by omega) o)).mono ?_; rintro e w6 ⟨rfl, hb6⟩
  have hb6' := hb5'.trans (hb6.mono hz5)
  have hz6 := hb6'.size
  go_wp2_with fail
  refine (plus_any _ _ w6 (fun p hp => by have := b1 p hp; omega) (fun p hp => by have := b2 p hp; omega)).mono ?_; rintro e w7 ⟨rfl, hb7⟩
  have hb7' := hb6'.trans (hb7.mono hz6)
  have hz7 := hb7'.size
  obtain ⟨G, hG⟩ : ∃ G : Nat → Nat, G = fun p => rdS A 17 p + rdS (dgF part 1) (part.size + 1) p := ⟨_, rfl⟩
  have hGl : ∀ p, p < 5 → G p ≤ 600000000 := fun p hp => by rw [hG]; show rdS A 17 p + rdS (dgF part 1) (part.size + 1) p ≤ _; have := b1 p hp; have := b2 p hp; omega
  rw [← hG]
  have HV : Hid (stI A R part = lftV (tiS G (rdS R 17) 5) ∧ stV A R part = digV (finV (stI A R part))) := by rw [hG]; exact ⟨rfl, rfl⟩
  clear hG b1 b2
  have k8 := KH.Blk.new w7 173 (S5 G)
  have hb8 := hb7'.alloc hz7 (.cells (S5 G) 173)
  unfold S5 at *
  go_wp2_with fail
  generalize w7.alloc (.cells #[.int .i64 (G 0 : Nat), .int .i64 (G 1 : Nat), .int .i64 (G 2 : Nat), .int .i64 (G 3 : Nat), .int .i64 (G 4 : Nat)] 173) = W at *
  obtain ⟨h8, e8⟩ : ∃ h, h = w7.heap.size := ⟨_, rfl⟩
  rw [← e8] at k8 ⊢
  have l8 : w2.heap.size ≤ h8 := by omega
  have hz8 := hb8.size
  have hr2 : KH.Reads W.drew B 1 A2 17 (bzW 17 R) := (h2.keep (fun p hp => hb8.cell (p := p) (by omega))).drew
  have HRD : Hid (Calls Tryz.prog 111 #[.slice A2 17 c2] W.drew fun e w' => e = .returned (.agg #[.int .i64 (rdS R 17 0 : Nat), .int .i64 (rdS R 17 1 : Nat), .int .i64 (rdS R 17 2 : Nat), .int .i64 (rdS R 17 3 : Nat), .int .i64 (rdS R 17 4 : Nat)]) ∧ Below W.drew.heap.size W.drew w') :=
    rdd_any (cap := c2) W.drew (by show B ≤ W.heap.size; omega) hr2 (by omega) hR.1
  have K8 : KH.Blk W.drew h8 173 (S5 G) := k8
  obtain ⟨a0, a1, a2, a3, a4⟩ := src5 K8
  have HK := KH.hid K8
  have HM : Hid (∀ w, Calls Tryz.prog 113 #[.agg #[.int .i64 (G 0 : Nat), .int .i64 (G 1 : Nat), .int .i64 (G 2 : Nat), .int .i64 (G 3 : Nat), .int .i64 (G 4 : Nat)], .agg #[.int .i64 (rdS R 17 0 : Nat), .int .i64 (rdS R 17 1 : Nat), .int .i64 (rdS R 17 2 : Nat), .int .i64 (rdS R 17 3 : Nat), .int .i64 (rdS R 17 4 : Nat)]] w fun e w' => e = .returned (.agg (S5 (tiS G (rdS R 17) 5))) ∧ Below w.heap.size w w') :=
    fun w => mtimes_any G (rdS R 17) w hGl b3
  have HLE : Hid (∀ w, Calls Tryz.prog 114 #[.agg (S5 (tiS G (rdS R 17) 5))] w fun e w' => e = .returned (.agg (S5 (finV (stI A R part)))) ∧ Below w.heap.size w w') := fun w => by
    rw [HV.out.1]; exact left_any _ w fun p hp => by have := tiS_le hGl b3 (i := 5) (by omega) p; omega
  have HDI : Hid (∀ w, Calls Tryz.prog 115 #[.agg (S5 (finV (stI A R part)))] w fun e w' => ∃ A', e = .returned (.slice A' 17 17) ∧ KH.Reads w' w'.heap.size 1 A' 17 (bzW 17 (stV A R part)) ∧ Below w.heap.size w w') := fun w => by
    rw [HV.out.2]; exact digits_any _ w (finV_lt (by unfold stI; exact lftV_low))
  have HB := KH.hid hb8
  clear h1 h2 hb3 hz3 hlit hb4 hb4' hr5 hb5 hb5' hz5 hb6 hb6' hz6 hb7 hb7' hz7 HV k8 K8 hr2 e8 hGl b3 hA hR hb8
  generalize S5 (tiS G (rdS R 17) 5) = v1 at *
  generalize S5 (finV (stI A R part)) = v2 at *
  go_region_with (first
    | (go_at_call 111; refine HRD.out.mono ?_; rintro e w9 ⟨rfl, hb9⟩; have hk9 := KH.Blk.below (w := W.drew) HK.out hb9 HK.out.lt; obtain ⟨x0, x1, x2, x3, x4⟩ := src5 hk9)
    | (go_at_call 113; refine (HM.out _).mono ?_; rintro e w10 ⟨rfl, hb10⟩)
    | (go_at_call 114; refine (HLE.out _).mono ?_; rintro e w11 ⟨rfl, hb11⟩)
    | (go_at_call 115; refine (HDI.out _).mono ?_; rintro e w12 ⟨A12, rfl, hr12, hb12⟩))
  all_goals
    have hz9 := hb9.size
    have hz10 := hb10.size
    have hz11 := hb11.size
    have hzz : w2.heap.size ≤ W.drew.heap.size := hz8
    have hBF := (((HB.out.drew.trans (hb9.mono hzz)).trans (hb10.mono (by omega))).trans (hb11.mono (by omega))).trans (hb12.mono (by omega))
    have HF := KH.hid (And.intro hr12 hBF)
    clear hb9 hk9 x0 x1 x2 x3 x4 a0 a1 a2 a3 a4 hb10 hb11 hb12 hr12 hBF hz9 hz10 hz11 hzz HK HB HM HLE HDI HRD
    go_wp2_with fail
    exact bodyPost_ret (v := .tuple #[.slice A12 17 17, .bool true]) (by simp [results, Tryz.results99, go_sem]) rfl ⟨_, rfl, HF.out⟩
end Go.Proofs.YtlnilfcjcoclhaaGreatDoor
/- Package tag: the parts of a text; Tag. -/
namespace Go.Proofs.YtlnilfcjcoclhaaGreatDoor
open Go.RowKit Go.Shelf
attribute [local go_sem] Oper.semAt_some

/-- a part of a text -/
abbrev P16 := { b : ByteArray // 0 < b.size ∧ b.size ≤ 16 }
def z1P : P16 := ⟨tx 1 fun _ => 0, by rw [tx_size]; omega⟩
def mkP (b : ByteArray) : P16 := if h : 0 < b.size ∧ b.size ≤ 16 then ⟨b, h⟩ else z1P
theorem mkP_val {b : ByteArray} (h : 0 < b.size ∧ b.size ≤ 16) : (mkP b).1 = b := by unfold mkP; rw [dif_pos h]
def prX (s : ByteArray) (i : Nat) : ByteArray := s.extract (16 * i) (min (16 * i + 16) s.size)
theorem prX_in {s : ByteArray} {i : Nat} (h : 16 * i < s.size) : 0 < (prX s i).size ∧ (prX s i).size ≤ 16 := by
  unfold prX; rw [ByteArray.size_extract]; omega
def prS (s : ByteArray) (k : Nat) : List P16 := (List.range k).map fun i => mkP (prX s i)
theorem prS_snoc (s : ByteArray) (k : Nat) : prS s (k + 1) = prS s k ++ [mkP (prX s k)] := by
  unfold prS; rw [List.range_succ, List.map_append]; rfl
theorem prS_length (s : ByteArray) (k : Nat) : (prS s k).length = k := by simp [prS]
def allP (s : ByteArray) : List P16 := prS s ((s.size + 15) / 16)

set_option maxRecDepth 100000 in
theorem parts_yes (s : ByteArray) (w : World) : Calls Tryz.prog 98 #[.string s] w fun e w' => e = .returned (.func (.func 109) #[] #[.pointer (some ⟨w.heap.size, 0, none⟩)]) ∧ w' = w.alloc (.cells #[.string s] 9) := by
  go_enter Tryz.func98, Tryz.ntmps98
  go_wp2
  go_ret
  exact ⟨rfl, rfl⟩

set_option maxHeartbeats 2000000 in
set_option maxRecDepth 100000 in
theorem parts_stops (F : Fence) (n : Nat) (h53 : F.fn 109) (hro : F.round = none) (hn : 1 ≤ n) (b1 : Nat) (s : ByteArray) (w : World) (hb1 : b1 < w.heap.size)
    (hc1 : w.cell? ⟨b1, 0, none⟩ = some (.string s)) (hs : s.size ≤ 8200) :
    SeqStopsK F n Tryz.prog 109 #[.pointer (some ⟨b1, 0, none⟩)] (fun x : P16 => #[Value.string x.1]) (KpB b1) (fun xs => xs = allP s) (fun _ => True) (allP s).length w := fun l J Jx W hW hJ hJx hY h0 => by
  have hd1 := (hW.cell (p := ⟨b1, 0, none⟩) hb1).trans hc1
  have HY := KH.hid hY
  have HN : Hid ((allP s).length = (s.size + 15) / 16) := by unfold Hid allP; rw [prS_length]
  have HQ : Hid (allP s = prS s ((s.size + 15) / 16)) := rfl
  clear hY hW hJ hJx
  refine callsIn_of_wp Tryz.func109 rfl h53 ?_ hro
  simp only [Tryz.ntmps109, List.size_toArray, List.length_cons, List.length_nil, Nat.reduceAdd, Nat.reduceSub, Array.replicate_succ, Array.replicate_zero, List.push_toArray, List.append_toArray, List.nil_append, List.cons_append]
  gi_wp2
  gi_loopw [3] (fun t wr => ∃ j : Nat, j ≤ (s.size + 15) / 16 ∧ t = .int .i64 (16 * j : Nat) ∧ J (prS s j) wr ∧ wr.cell? ⟨b1, 0, none⟩ = some (.string s)) (fun t _ => s.size + 16 - (intOf t).toNat)
  case atStart => exact ⟨0, Nat.zero_le _, rfl, h0, hd1⟩
  case round =>
    obtain ⟨j, hj, rfl, hJj, hdb⟩ := hrel
    clear h0 hd1
    by_cases hlt : 16 * j < s.size
    · have hin := prX_in hlt
      obtain ⟨fn, tmps, assign, body, hy, hR⟩ := HY.out (prS s j) (mkP (prX s j)) wr hJj (by rw [prS_length, HN.out]; omega)
      rw [mkP_val hin] at hy
      rw [← prS_snoc] at hR
      have d1 : decide (((16 * j : Nat) : Int) < (s.size : Int)) = true := by rw [decide_eq_true_iff]; omega
      by_cases hfull : 16 * j + 16 ≤ s.size
      · have e : prX s j = s.extract (16 * j) (16 * j + 16) := by unfold prX; rw [Nat.min_eq_left hfull]
        rw [e] at hy
        have j0 : (0 : Int) ≤ (j : Int) := by omega
        have HI := KH.hid (And.intro hj hlt)
        clear hin hj e
        gi_wp2
        all_goals first
          | (exfalso; omega)
          | skip
        refine hR.mono ?_
        rintro e W1 (⟨rfl, hJ1, hk1⟩ | ⟨rfl, hx1⟩)
        · have hdb1 : W1.cell? ⟨b1, 0, none⟩ = some (.string s) := Eq.trans hk1 hdb
          gi_wp2
          exact ⟨⟨j + 1, by have := HI.out; omega, by congr 1, hJ1, hdb1⟩, by have := HI.out; simp [intOf]; omega⟩
        · gi_wp2
          refine bodyPost_ret (results_none rfl _ _ _) rfl ?_
          exact ⟨⟨_, rfl⟩, .inr ⟨_, trivial, hx1⟩⟩
      · have e : prX s j = s.extract (16 * j) s.size := by unfold prX; rw [Nat.min_eq_right (by omega)]
        rw [e] at hy
        have j0 : (0 : Int) ≤ (j : Int) := by omega
        have HI := KH.hid (And.intro hj hlt)
        clear hin hj e
        gi_wp2
        all_goals first
          | (exfalso; omega)
          | skip
        refine hR.mono ?_
        rintro e W1 (⟨rfl, hJ1, hk1⟩ | ⟨rfl, hx1⟩)
        · have hdb1 : W1.cell? ⟨b1, 0, none⟩ = some (.string s) := Eq.trans hk1 hdb
          gi_wp2
          exact ⟨⟨j + 1, by have := HI.out; omega, by congr 1, hJ1, hdb1⟩, by have := HI.out; simp [intOf]; omega⟩
        · gi_wp2
          refine bodyPost_ret (results_none rfl _ _ _) rfl ?_
          exact ⟨⟨_, rfl⟩, .inr ⟨_, trivial, hx1⟩⟩
    · obtain rfl : j = (s.size + 15) / 16 := by omega
      have d1 : decide (((16 * ((s.size + 15) / 16) : Nat) : Int) < (s.size : Int)) = false := by rw [decide_eq_false_iff_not]; omega
      rw [← HQ.out] at hJj
      gi_wp2
      go_end0
      exact ⟨⟨_, rfl⟩, .inl ⟨_, rfl, hJj⟩⟩
end Go.Proofs.YtlnilfcjcoclhaaGreatDoor
/- Package tag: Tag. -/
namespace Go.Proofs.YtlnilfcjcoclhaaGreatDoor
open Go.RowKit Go.Shelf
attribute [local go_sem] Oper.semAt_some

/-- the row behind parts -/
def accF (R : Nat → Nat) (pre : List P16) : Nat → Nat := pre.foldl (fun A (x : P16) => stV A R x.1) fun _ => 0
theorem accF_snoc (R : Nat → Nat) (pre : List P16) (x : P16) : accF R (pre ++ [x]) = stV (accF R pre) R x.1 := by unfold accF; rw [List.foldl_append]; rfl
theorem accF_row (R : Nat → Nat) (pre : List P16) : RowOk (accF R pre) := by
  rcases List.eq_nil_or_concat pre with rfl | ⟨p, x, rfl⟩
  · exact ⟨fun _ _ => by show (0 : Nat) < 256; omega, .inl (by show (0 : Nat) < 3; omega)⟩
  · rw [List.concat_eq_append, accF_snoc]; exact stV_row _ _ _
def tgS (A : Nat → Nat) (key : ByteArray) : Nat → Nat
  | 0 => 0
  | i + 1 => (tgS A key i + (A i + sb key (16 + i))) / 256
def tgB (A : Nat → Nat) (key : ByteArray) (i : Nat) : Nat := (tgS A key i + (A i + sb key (16 + i))) % 256
theorem tgS_le {A : Nat → Nat} (key : ByteArray) (hA : ∀ o, o < 17 → A o < 256) : ∀ i, i ≤ 17 → tgS A key i ≤ 2
  | 0, _ => Nat.zero_le _
  | i + 1, hi => by
    have h1 := tgS_le key hA i (by omega)
    have h2 := hA i (by omega)
    have h3 := sb_lt key (16 + i)
    rw [tgS]; omega
/-- the multiplier of a key -/
def mulK (key : ByteArray) : Nat → Nat := dgF (clV (key.extract 0 16)) 0
/-- 16 bytes of a text, by a key -/
def tagV (key s : ByteArray) : ByteArray := tx 16 (tgB (accF (mulK key) (allP s)) key)
theorem tagV_size (key s : ByteArray) : (tagV key s).size = 16 := tx_size _ _
theorem clV_size (r : ByteArray) : (clV r).size = 16 := tx_size _ _
theorem mulK_row (key : ByteArray) : RowOk (mulK key) := by
  refine ⟨fun o _ => dgF_lt (by omega) o, .inl ?_⟩
  unfold mulK dgF
  rw [if_neg (by rw [clV_size]; omega)]; omega
theorem wpListIn_make_full {F : Fence} {k : Nat} {P : Program} (w : World) {ops : Array Oper} {rest : List Oper} {o : Oper} {a : Act} {Q : Exit → Act → World → Prop}
    (hg : o.guard = none) (l c : Operand) (t : TypeId) (hop : o.op = Op.makeSlice t l c)
    (base : Nat) (e : TypeId) (i : TypeInfo) (z : Value) (size : Nat) (h1 : P.underlying t = some (.slice e)) (h2 : P.info? e = some i) (h3 : i.zero = some z) (h4 : i.size = size)
    (kl kc : IntKind) (L C : Int) (n : Nat) (hl : a.eval l = .int kl L) (hc : a.eval c = .int kc C) (hL : L = (n : Int)) (hC : C = (n : Int)) (b2 : i.bytes * n ≤ 281474976710656) (b3 : n ≤ maxLen) (b4 : base ≤ w.heap.size)
    (hK : ∀ w', w'.ownsRow base e size (.slice (some ⟨w.heap.size, 0, none⟩) n n) n (madeCells z.cells (n * size)).toList → w.grownBy w' none → wpListIn F k P ops Q rest (a.put o.dst (.slice (some ⟨w.heap.size, 0, none⟩) n n)) w') :
    wpListIn F k P ops Q (o :: rest) a w := by
  refine wpListIn_plain hg fun K hK' => ?_
  obtain ⟨w', hrun, r1, r2⟩ := run_make_full (P := P) w base t e i z size h1 h2 h3 h4 kl kc n b2 b3 b4
  subst hL
  subst hC
  unfold Oper.wpIn
  refine ⟨?_, ?_⟩
  · simp [Oper.about, hop]
  · rw [Oper.semAt_plain F _ _ (by rw [hop]; intro c hc'; cases hc')]
    simp [execOp, hop, hl, hc, hrun, Result.andThen]
    exact hK' _ _ (hK w' r1 r2)
theorem reads_off {W : World} {B n g : Nat} {A : Option Addr} {xs : List Value} {t : TypeId} {v : Value} (h : KH.Reads W B 1 A n xs) (hk : KH.Blk W g t #[v]) (hn : 1 < n) : ∀ ad, A = some ad → ad.block ≠ g := fun ad e hb => by
  obtain ⟨ad', u, e', -, -, hc⟩ := h.at_ hn
  obtain rfl : ad = ad' := by rw [e] at e'; exact Option.some.inj e'
  rw [show (1 : Nat) = 1 + 0 from rfl, add_one, hb] at hc
  rw [hk.cell] at hc
  simp at hc
/-- what the parts keep -/
def TagI (R : Nat → Nat) (h8 h9 : Nat) (AR : Option Addr) (cR : Nat) (w : World) (pre : List P16) (W : World) : Prop :=
  (∃ A, KH.Blk W h9 29 #[.slice A 17 17] ∧ KH.Reads W W.heap.size 1 A 17 (bzW 17 (accF R pre))) ∧
    KH.Blk W h8 29 #[.slice AR 17 cR] ∧ KH.Reads W W.heap.size 1 AR 17 (bzW 17 R) ∧ Below w.heap.size w W ∧ h9 + 2 ≤ W.heap.size
theorem reads_kept {A A' : World} {n : Nat} {P : Option Addr} {xs : List Value} {row : Option Nat} (h : KH.Reads A A.heap.size 1 P n xs) (hg : A.grownBy A' row) (hr : ∀ r, row = some r → ∃ o : Obj, A.heap[r]? = some o ∧ o.isCells = false) : KH.Reads A' A'.heap.size 1 P n xs := by
  refine ⟨h.1, fun hn => ?_⟩
  obtain ⟨ad, e, hb, hc⟩ := h.2 hn
  exact ⟨ad, e, Nat.lt_of_lt_of_le hb hg.size, fun j u hu => cell_kept (hc j u hu) hg hr⟩
theorem blk_kept {A A' : World} {g : Nat} {t : TypeId} {cs : Array Value} {row : Option Nat} (h : KH.Blk A g t cs) (hg : A.grownBy A' row) (hr : ∀ r, row = some r → ∃ o : Obj, A.heap[r]? = some o ∧ o.isCells = false) : KH.Blk A' g t cs := by
  refine h.grown hg (fun e => ?_)
  obtain ⟨o, ho, hc⟩ := hr g e.symm
  have h1 := h
  unfold KH.Blk at h1
  rw [h1] at ho
  injection ho with ho
  rw [← ho] at hc
  exact absurd hc (by simp [Obj.isCells])
theorem tagI_own (R : Nat → Nat) (h8 h9 : Nat) (AR : Option Addr) (cR : Nat) (w : World) (B : Nat) (hB : w.heap.size ≤ B) : OwnFrom B (TagI R h8 h9 AR cR w) := by
  intro s A A' row hs hg hr
  have hr' : ∀ r, row = some r → ∃ o : Obj, A.heap[r]? = some o ∧ o.isCells = false := fun r e => (hr r e).2
  obtain ⟨⟨A0, h1, h2⟩, h3, h4, h5, h6⟩ := hs
  exact ⟨⟨A0, blk_kept h1 hg hr', reads_kept h2 hg hr'⟩, blk_kept h3 hg hr', reads_kept h4 hg hr', h5.grown hg h5.size (fun k e => Nat.le_trans hB (hr k e).1), Nat.le_trans h6 hg.size⟩
set_option maxHeartbeats 2000000 in
set_option maxRecDepth 100000 in
theorem tag_any (key s : ByteArray) (w : World) (hk : key.size = 32) (hs : s.size ≤ 8200) :
    Calls Tryz.prog 80 #[.string key, .string s] w fun e w' => e = .returned (.tuple #[.string (tagV key s), .int .i64 0]) ∧ Below w.heap.size w w' := by
  obtain ⟨i0, hi, hz0, hz1, hz2⟩ := info_parts int_info
  have d1 : ((key.size : Int) != 32) = false := by rw [hk]; rfl
  have d2 : decide ((8200 : Int) < (s.size : Int)) = false := by rw [decide_eq_false_iff_not]; omega
  have hx : (key.extract 0 16).size = 16 := by rw [ByteArray.size_extract]; omega
  have HCL := KH.hid (clamp_any (key.extract 0 16) w hx)
  have hcs := clV_size (key.extract 0 16)
  have HV : Hid (mulK key = dgF (clV (key.extract 0 16)) 0) := rfl
  have HT : Hid (tagV key s = tx 16 (tgB (accF (mulK key) (allP s)) key)) := rfl
  have k16 : (16 : Int) ≤ (key.size : Int) := by omega
  refine (callsIn_wide (n := 5)).1 ?_
  refine callsIn_of_wp_marks Tryz.func80 rfl trivial ?_ rfl
  simp only [Tryz.ntmps80, List.size_toArray, List.length_cons, List.length_nil, Nat.reduceAdd, Nat.reduceSub, Array.replicate_succ, Array.replicate_zero, List.push_toArray, List.append_toArray, List.nil_append, List.cons_append]
  gi_wp2_with (first
    | (refine ⟨trivial, ?_⟩; gi_at_call 96; refine (callsIn_wide.2 HCL.out).mono ?_; rintro e w1 ⟨rfl, hb1⟩)
    | (refine ⟨trivial, ?_⟩; gi_at_call 97; refine (callsIn_wide.2 (digitsOf_any (clV (key.extract 0 16)) 0 _ 1 _ _ (by omega) (by simp) (reads_lit w1 [(0 : Int)] 3 w1.heap.size rfl))).mono ?_; rintro e w2 ⟨AR, cR, rfl, hcR, hR2, hb2⟩)
    | (gi_at_make; refine wpListIn_make_full _ rfl _ _ 29 rfl 0 3 i0 (.int .i64 0) 1 Tryz.underlying29 hi hz0 hz1 .i64 .i64 _ _ 17 rfl rfl rfl rfl (by rw [hz2]; omega) (by unfold maxLen; omega) (Nat.zero_le _) ?_; intro w3 hown3 hg3)
    | (refine ⟨trivial, ?_⟩; gi_at_call 98; refine (callsIn_wide.2 (parts_yes _ _)).mono ?_; rintro e w4 ⟨rfl, rfl⟩))
  rw [show (clV (key.extract 0 16)).size + 1 = 17 by omega, ← HV.out] at hR2
  generalize clV (key.extract 0 16) = cl at *
  generalize key.extract 0 16 = kx at *
  have hb12 : Below w.heap.size w w2 := (hb1.alloc hb1.size (.cells ((List.map (Value.int IntKind.i64) [0]).toArray) 3)).trans (hb2.mono (by have := hb1.size; simp; omega))
  have hz12 := hb12.size
  have ez : (w2.alloc (.cells #[.slice AR 17 cR] 29)).heap.size = w2.heap.size + 1 := by simp
  have hb23 : Below (w2.heap.size + 1) (w2.alloc (.cells #[.slice AR 17 cR] 29)) w3 := (Below.refl _ _).grown hg3 (by omega) (fun _ h => by cases h)
  have hz3 := hb23.size
  have hb3 : Below w.heap.size w w3 := (hb12.alloc hz12 (.cells #[.slice AR 17 cR] 29)).trans (hb23.mono (by omega))
  have k8 := (KH.Blk.new w2 29 #[.slice AR 17 cR]).below hb23 (by omega)
  have hR3 := (hR2.alloc (Nat.le_refl _) (.cells #[.slice AR 17 cR] 29)).below (hb23.mono (by omega))
  rw [show (madeCells (Value.int .i64 0).cells (17 * 1)).toList = bzW 17 (accF (mulK key) []) by kernel_rfl, ez] at hown3
  have hrd3 := KH.Reads.of_own hown3
  have hown4 := KH.hid hown3
  have k9 := (KH.Blk.new w3 29 #[.slice (some ⟨w2.heap.size + 1, 0, none⟩) 17 17]).alloc (.cells #[.string s] 9)
  have ez4 : (w3.alloc (.cells #[.slice (some ⟨w2.heap.size + 1, 0, none⟩) 17 17] 29)).heap.size = w3.heap.size + 1 := by simp
  have ez5 : ((w3.alloc (.cells #[.slice (some ⟨w2.heap.size + 1, 0, none⟩) 17 17] 29)).alloc (.cells #[.string s] 9)).heap.size = w3.heap.size + 2 := by simp
  have hc1 : ((w3.alloc (.cells #[.slice (some ⟨w2.heap.size + 1, 0, none⟩) 17 17] 29)).alloc (.cells #[.string s] 9)).cell? ⟨w3.heap.size + 1, 0, none⟩ = some (.string s) := by
    rw [World.cell?_alloc_at _ _ _ _ (by simp)]; rfl
  have hI0 : TagI (mulK key) w2.heap.size w3.heap.size AR cR w [] ((w3.alloc (.cells #[.slice (some ⟨w2.heap.size + 1, 0, none⟩) 17 17] 29)).alloc (.cells #[.string s] 9)) := by
    refine ⟨⟨_, k9, ((hrd3.alloc (Nat.le_refl _) _).alloc (by omega) _).more (by omega)⟩, (k8.alloc _).alloc _, ((hR3.alloc (by omega) _).alloc (by omega) _).more (by omega), (hb3.alloc hb3.size _).alloc (by rw [ez4]; have := hb3.size; omega) _, by omega⟩
  have h89 : w2.heap.size < w3.heap.size := by omega
  have hw8 : w.heap.size ≤ w2.heap.size := hz12
  have HR := KH.hid (mulK_row key)
  have hcR' : 17 ≤ cR := by omega
  clear hR2 hR3 hrd3 hown3 hown4 k8 k9 hb3 hb23 hg3 ez ez4 hb12 hb1 hb2 HCL
  generalize (w3.alloc (.cells #[.slice (some ⟨w2.heap.size + 1, 0, none⟩) 17 17] 29)).alloc (.cells #[.string s] 9) = W3 at *
  generalize mulK key = R at *
  refine wpIn_rangeFunc_ownF rfl (by omega) (gf := 109) (lb := #[.pointer (some ⟨w3.heap.size + 1, 0, none⟩)]) rfl trivial (enters_of Tryz.func109 (by kernel_rfl) rfl)
    (parts_stops Fence.wide _ trivial rfl (by omega) (w3.heap.size + 1) s W3 (by omega) hc1 hs) (fun h k => Eq.trans k h) ?hKb (Below.refl _ _) (fun _ => rfl)
    (TagI R w2.heap.size w3.heap.size AR cR w) (fun _ _ _ => False) (tagI_own R _ _ AR cR w _ (by omega)) (fun _ _ _ _ _ hs _ _ => hs) hI0
    (fun x => { tmps := #[.string key, .string s, undef, undef, .string ⟨#[]⟩, .int .i64 0, .string cl, .bool true, .pointer (some ⟨w2.heap.size, 0, none⟩), .pointer (some ⟨w3.heap.size, 0, none⟩), .string x.1, undef, undef, undef, .string key, .int .i64 32, .bool false, .string s, .int .i64 s.size, .bool false, .tuple #[.string cl, .bool true], .string key, .string kx, .tuple #[.string cl, .bool true], .string cl, .bool true, .string cl, .slice (some ⟨w1.heap.size, 0, none⟩) 1 1, .slice AR 17 cR, .slice (some ⟨w2.heap.size + 1, 0, none⟩) 17 17, .string s, .func (.func 109) #[] #[.pointer (some ⟨w3.heap.size + 1, 0, none⟩)], .string x.1, undef, undef, undef, undef, undef, undef, undef, undef, undef, undef, undef, undef, undef, undef, undef, undef, undef, undef, undef, undef, undef, undef, undef, undef, undef, undef, undef, undef, undef, undef, undef, undef, undef, undef, undef], defers := [] }) ?assign ?body ?done ?stop
  case hKb =>
    intro W l o o' hl ho hc hw
    exact World.cell?_of_block (World.putObj_heap_other (by show w3.heap.size + 1 ≠ l; omega))
  case assign =>
    intro l x W K' hK'
    gi_wp2
    exact hK'
  case body =>
    rintro l pre x W ⟨⟨A, hk9, hrA⟩, hk8, hrR, hBl, hz9⟩ _
    have HST := KH.hid (tstep_any (part := x.1) (c1 := 17) (c2 := cR) W (Nat.le_refl _) hrA hrR (by omega) hcR' (accF_row R pre) HR.out x.2.1 x.2.2)
    have HSN := KH.hid (accF_snoc R pre x)
    have HS := KH.hid (And.intro hk9 (And.intro hk8 (And.intro hrR hBl)))
    have c8 : W.cell? ⟨w2.heap.size, 0, none⟩ = some (.slice AR 17 cR) := hk8.cell 0
    have c9 : W.cell? ⟨w3.heap.size, 0, none⟩ = some (.slice A 17 17) := hk9.cell 0
    clear hk9 hk8 hrA hrR hBl
    gi_wp2_with (refine ⟨trivial, ?_⟩; gi_at_call 99; refine (CallsIn.inRound l (callsIn_wide.2 HST.out)).mono ?_; rintro e W1 ⟨A', rfl, hr1, hb1⟩; have hk91 := HS.out.1.below hb1 HS.out.1.lt; have f9 := hk91.frozen 0; have d9 : W1.cell? ⟨w3.heap.size, 0, none⟩ = some (.slice A 17 17) := hk91.cell 0)
    have hz1 := hb1.size
    obtain ⟨e9, e8, eR, eB⟩ := HS.out
    have l8 := e8.lt
    have l9 := e9.lt
    have n89 : w3.heap.size ≠ w2.heap.size := by omega
    have hk92 := hk91.set_ 0 (.slice A' 17 17)
    have hk82 := (e8.below hb1 l8).far (p := ⟨w3.heap.size, 0, none⟩) (fun e => n89 e.symm) (.slice A' 17 17)
    have hb2 := (eB.trans (hb1.mono eB.size)).setCell (p := ⟨w3.heap.size, 0, none⟩) (by show w.heap.size ≤ w3.heap.size; omega) (.slice A' 17 17)
    have hb3 : Below w3.heap.size W (W1.setCell ⟨w3.heap.size, 0, none⟩ (.slice A' 17 17)) := (hb1.mono (show w3.heap.size ≤ W.heap.size by omega)).setCell (p := ⟨w3.heap.size, 0, none⟩) (Nat.le_refl _) _
    have hw3 : w3.heap.size + 1 < W.heap.size := by omega
    refine ⟨(keeps_of_below hb1).trans (KeepsOthers.setCell _ _ _), ?_, ⟨A', hk92, ?_⟩, hk82, ?_, hb2, by simp; omega⟩
    · exact (World.cell?_setCell_other _ _ _ _ (fun e => by injection e with e; omega)).trans (hb1.cell (p := ⟨w3.heap.size + 1, 0, none⟩) hw3)
    · rw [HSN.out]
      exact (KH.Reads.setFar hr1 (p := ⟨w3.heap.size, 0, none⟩) (reads_off hr1 hk91 (by omega)) _).more (by simp)
    · exact (KH.Reads.setFar ((eR.below hb1).more hz1) (p := ⟨w3.heap.size, 0, none⟩) (reads_off ((eR.below hb1).more hz1) hk91 (by omega)) _).more (by simp)
  case done =>
    rintro D xs W hD rfl ⟨⟨A, hk9, hrA⟩, hk8, hrR, hBl, hz9⟩ hKD
    clear hI0 hc1
    simp only [Exit.inBlock, Exit.then]
    rename_i K0 a0
    refine a0 _ _ (wpIn_wide.2 ?_)
    clear a0
    have hsz := hBl.size
    obtain ⟨F, hF⟩ : ∃ F, F = accF R (allP s) := ⟨_, rfl⟩
    rw [← hF] at HT hrA
    have hFl : ∀ o, o < 17 → F o < 256 := by rw [hF]; exact (accF_row R _).1
    clear hF
    obtain ⟨b0, hib, hbz0, hbz1, hbz2⟩ := info_parts byte_info
    go_wp2_with (at_make; refine wpList_make_full _ rfl _ _ 84 rfl W.heap.size 5 b0 (.int .u8 0) 1 Tryz.underlying84 hib hbz0 hbz1 .i64 .i64 _ _ 16 rfl rfl rfl rfl (by rw [hbz2]; omega) (by unfold maxLen; omega) (Nat.le_refl _) ?_; intro w5 hown5 hg5)
    have hb5 : Below W.heap.size W w5 := (Below.refl _ _).grown hg5 (Nat.le_refl _) (fun _ h => by cases h)
    rw [show (madeCells (Value.int .u8 0).cells (16 * 1)).toList = bl 16 (fun o => if o < 0 then tgB F key o else 0) by kernel_rfl] at hown5
    have HA := KH.hid (And.intro hk9 (And.intro hrA (And.intro hFl (tgS_le key hFl))))
    have HB := KH.hid (And.intro hBl (And.intro hKD hD))
    clear hg5 hk9 hrA hk8 hrR hBl hKD hD hFl
    go_loopw [12, 13, 43] (fun su _ t wr => ∃ i : Nat, i ≤ 16 ∧ t = .int .i64 i ∧ su = .int .i64 (tgS F key i : Nat) ∧ wr.ownsRow W.heap.size 5 1 (.slice (some ⟨W.heap.size, 0, none⟩) 16 16) 16 (bl 16 fun o => if o < i then tgB F key o else 0) ∧ Hid (Below W.heap.size W wr)) (fun _ _ t _ => 16 - (intOf t).toNat)
    case atStart => exact ⟨0, Nat.zero_le _, rfl, rfl, hown5, hb5⟩
    case round =>
      obtain ⟨i, hi, rfl, rfl, hown, hb⟩ := hrel
      clear hown5 hb5
      by_cases hil : i < 16
      · obtain ⟨ad, u, rfl, hbl, hu, hc⟩ := (HA.out.2.1.below hb.out).at_ (show i < 17 by omega)
        rw [bzW_get _ (by omega)] at hu
        obtain rfl := (Option.some.inj hu).symm
        have c9 : wr.cell? ⟨w3.heap.size, 0, none⟩ = some (.slice (some ad) 17 17) := (hb.out.cell (p := ⟨w3.heap.size, 0, none⟩) (by show w3.heap.size < _; omega)).trans (HA.out.1.cell 0)
        have hx := HA.out.2.2.1 i (by omega)
        have hz := HA.out.2.2.2 i (by omega)
        have hkk : 16 + i < key.size := by omega
        have hyy : (key[16 + i]'hkk).toNat = sb key (16 + i) := sb_get key (16 + i) hkk
        have hy := sb_lt key (16 + i)
        have HO := KH.hid (hown.stored i (.int .u8 (tgB F key i : Nat))).1
        have HS : Hid ((bl 16 fun o => if o < i then tgB F key o else 0).set i (.int .u8 (tgB F key i : Nat)) = bl 16 fun o => if o < i + 1 then tgB F key o else 0) := by
          unfold Hid
          rw [bl_set]
          refine bl_congr fun o ho => ?_
          by_cases e : o = i
          · subst e; rw [if_pos rfl, if_pos (by omega)]
          · rw [if_neg e]
            by_cases h : o < i
            · rw [if_pos h, if_pos (by omega)]
            · rw [if_neg h, if_neg (by omega)]
        rw [HS.out] at HO
        have HSU : Hid (tgS F key (i + 1) = (tgS F key i + (F i + sb key (16 + i))) / 256 ∧ tgB F key i = (tgS F key i + (F i + sb key (16 + i))) % 256) := ⟨rfl, rfl⟩
        have hl7 := (hown.cellAt i (by omega)).trans (bl_get _ hil)
        have hf7 := hown.frozenAt i
        rw [if_neg (by omega)] at hl7
        have i0' : (0 : Int) ≤ (i : Int) := by omega
        have i1 : (i : Int) < 16 := by omega
        have i1b : (i : Int) < 17 := by omega
        have i1c : i < 17 := by omega
        have i2 : IntKind.i64.wrap (16 + (i : Int)) = 16 + (i : Int) := IntWalk.i64_in _ (by omega)
        have i3 : (16 + (i : Int)).toNat = 16 + i := by omega
        have i4 : (0 : Int) ≤ 16 + (i : Int) := by omega
        have i5 : 16 + (i : Int) < (key.size : Int) := by omega
        have d16 : decide ((i : Int) < 16) = true := by rw [decide_eq_true_iff]; omega
        clear hown hu HS
        generalize tgB F key i = bz at *
        generalize tgS F key i = z at *
        generalize F i = x at *
        generalize sb key (16 + i) = y at *
        go_wp2_with fail
        go_quiet (fail)
        obtain ⟨v, hv⟩ : ∃ v, v = z + (x + y) := ⟨_, rfl⟩
        have hV := HSU.out
        rw [← hv] at hV
        obtain ⟨hV1, hV2⟩ := hV
        have HV1 := KH.hid hV1
        have hv2 : v ≤ 600 := by omega
        rw [show (z : Int) + ((x : Int) + (y : Int)) = (v : Int) by omega]
        rw [hV2, show ((v % 256 : Nat) : Int) = (v : Int) % 256 by omega] at HO
        clear hV1 hV2 hv HSU hx hz hy hc c9 hyy hkk i2 i3 i4 i5 i1b i1c
        go_wp2_with fail
        have HO2 : ((wr.drewN nq).setCell ⟨W.heap.size, i, none⟩ (.int .u8 ((v : Int) % 256))).ownsRow W.heap.size 5 1 (.slice (some ⟨W.heap.size, 0, none⟩) 16 16) 16 (bl 16 fun o => if o < i + 1 then tgB F key o else 0) := HO.out
        have hb6 := (below_drewN hb.out nq).setCell (p := ⟨W.heap.size, i, none⟩) (Nat.le_refl _) (.int .u8 ((v : Int) % 256))
        have hv3 := HV1.out
        exact ⟨⟨i + 1, by omega, by go_num, by rw [hv3]; rfl, HO2, hb6⟩, by simp [intOf]; omega⟩
      · obtain rfl : i = 16 := by omega
        rw [bl_congr (G := tgB F key) (fun o ho => by rw [if_pos ho]), bl_map] at hown
        have hback := conv_own hown
        have HVV : Hid (strOfNums ((List.range 16).map fun o => ((tgB F key o : Nat) : Int)) = tagV key s) := by unfold Hid; rw [HT.out]; rfl
        rw [HVV.out] at hback
        have hK9 : wr.heap[D]? = some (.deferred (some [])) := (hb.out.block D (Array.getElem?_eq_some_iff.1 HB.out.2.1).1).trans HB.out.2.1
        have hbb := HB.out.1.trans (hb.out.mono hsz)
        have hDD : w.heap.size ≤ D := by have := HB.out.2.2; omega
        clear hown HA HB hb
        rw [show ((16 : Nat) : Int) = (16 : Int) from rfl]
        go_wp2_with fail
        show LeavesInM _ _ _ _ _ _ _ _ _
        refine ⟨by simp, .inl ⟨_, _, rfl, run_takeDeferred hK9, ?_⟩⟩
        refine ⟨_, (show (results _ _).run _ _ = .ok (.tuple #[.string (tagV key s), .int .i64 0]) _ by simp [results, Tryz.results80, go_sem]), rfl, ?_⟩
        exact hbb.trans (belowK_b (n₀ := w.heap.size) (w := w) (Nat.le_refl _) wr D _ _ hDD hK9 rfl rfl)
  case stop =>
    rintro D c pre W _ _ h _
    exact h.elim
end Go.Proofs.YtlnilfcjcoclhaaGreatDoor
