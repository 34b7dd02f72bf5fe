/- mill.Spares: valid spares with some swaps, out of a stream of numbers. -/
import Derived.Test.YtcacgmfihhpliaaSpare14
import Derived.Test.YtcacgmfihhpliaaDice
import Derived.Deep.RegionLaw
import Derived.Deep.RegionWith
namespace Go.Proofs.Ytcacgmfihhpliaa
set_option linter.unusedSimpArgs false
set_option linter.unusedVariables false
open Go.RowKit
set_option maxRecDepth 100000
attribute [local go_sem] lt_more ne_more ne_more'
attribute [local irreducible] wpX wpF Calls

theorem HS.perm {D : Nat → Prop} {W w : World} {L L' : List Item} (h : HS D W L w) (hp : L.Perm L') : HS D W L' w :=
  ⟨h.os, h.tape, h.output, h.size, h.old, fun A hA => h.ok A (hp.mem_iff.2 hA), fun A hA => h.own A (hp.mem_iff.2 hA), fun A hA => h.low A (hp.mem_iff.2 hA), h.dis.perm hp (fun hxy k hk hk' => hxy k hk' hk)⟩
theorem HS.lastTwo {D : Nat → Prop} {W w : World} {L : List Item} {A B : Item} (h : HS D W (L ++ [A, B]) w) : HS D W (L ++ [B, A]) w := h.perm (List.Perm.append_left L (List.Perm.swap B A []))
theorem HS.rowOutD {b : Nat} {W w : World} {L : List Item} (h : HS (OneD b) W L w) (k d : Nat) {B : Nat} {v : Value} {e : TypeId} {s n : Nat} {xs : List Value} (hk : L[k]? = some (.row v e s n xs)) (hd : L[d]? = some (.dice B b)) (hkd : k ≠ d) : w.ownsRow W.heap.size e s v n xs := by
  have h1 : w.ownsRow 0 e s v n xs := h.at k hk
  have h2 := h.own _ (List.mem_of_getElem? hk)
  have h0 := h1
  obtain ⟨h3, h4⟩ := h1
  refine ⟨h3, ?_⟩
  rcases h4 with h4 | ⟨g, cap, cur, hv, hg, r⟩
  · exact .inl h4
  · refine .inr ⟨g, cap, cur, hv, ?_, r⟩
    have hfp : (Item.row v e s n xs).fp g := by show v.ownBlock = some g; rw [hv]; rfl
    rcases h2 g hfp with h | h'
    · exact h
    · have : g = b := h'
      subst this
      exact absurd rfl (h.apart hk hd hkd hfp)
theorem freeK_mem {lo p0 p1 p2 p3 : Int} {xs : List S8} {k : Nat} {f0 : Int} (h : f0 ∈ freeK lo p0 p1 p2 p3 xs k) : lo ≤ f0 ∧ f0 < lo + k ∧ xs.any (holdsS p0 p1 p2 p3 f0) = false := by
  unfold freeK at h
  obtain ⟨h1, h2⟩ := List.mem_filter.1 h
  obtain ⟨j, hj, rfl⟩ := List.mem_map.1 h1
  have := List.mem_range.1 hj
  exact ⟨by omega, by omega, by simpa using h2⟩
/-- One more swap: valid spares stay valid. -/
theorem SpV.more {a0 a1 a2 a3 a4 a5 n p0 p1 p2 p3 p4 p5 f0 : Int} {xs : List S8} {c c' : Nat} {fs : List Int} (h : SpV a0 a1 a2 a3 a4 a5 n xs c) (hp : PV a0 a1 a2 a3 a4 a5 p0 p1 p2 p3 p4 p5) (hr : ¬ rwz a4 - n ≤ p4) (ht : xs.any (holdsR p0 p1 p2 p3 p4) = false) (hf : freeK (rwz a4 - n) p0 p1 p2 p3 xs n.toNat = f0 :: fs) (h16 : xs.length < 16) (hc : xs.length + 1 ≤ c') :
    SpV a0 a1 a2 a3 a4 a5 n (xs ++ [⟨p0, p1, p2, p3, 0, 0, p4, f0⟩]) c' := by
  obtain ⟨f1, f2, f3⟩ := freeK_mem (show f0 ∈ freeK (rwz a4 - n) p0 p1 p2 p3 xs n.toNat by rw [hf]; simp)
  have hn := h.n0
  refine ⟨h.sv, h.n0, by rw [List.length_append]; exact h16, by rw [List.length_append]; exact hc, ?_⟩
  unfold allR
  rw [List.all_eq_true]
  intro j hj
  have hj := List.mem_range.1 hj
  rw [List.length_append] at hj
  have hj : j < xs.length + 1 := hj
  by_cases e : j < xs.length
  · have h1 := (h.ok e).1
    unfold rightB at h1 ⊢
    rw [List.take_append_of_le_length (Nat.le_of_lt e)]
    have e2 : (xs ++ [(⟨p0, p1, p2, p3, 0, 0, p4, f0⟩ : S8)])[j]! = xs[j]! := by
      rw [getElem!_pos _ j (by rw [List.length_append]; exact Nat.lt_succ_of_lt e), getElem!_pos xs j e, List.getElem_append_left e]
    rw [e2]
    exact h1
  · obtain rfl : j = xs.length := by omega
    unfold rightB
    have e2 : (xs ++ [(⟨p0, p1, p2, p3, 0, 0, p4, f0⟩ : S8)])[xs.length]! = ⟨p0, p1, p2, p3, 0, 0, p4, f0⟩ := by
      rw [getElem!_pos _ xs.length (by rw [List.length_append]; exact Nat.lt_succ_self _)]; simp
    rw [e2, List.take_left']
    · have h4 := hp.h4
      have h5 := pw_pos a5
      have q : rwz a4 = 2 ^ a4.toNat := rfl
      have hok : okS a0 a1 a2 a3 a4 a5 n ⟨p0, p1, p2, p3, 0, 0, p4, f0⟩ = true := (okS_iff hn).2 ⟨⟨hp.h0, hp.h1, hp.h2, hp.h3, by omega, by omega⟩, rfl, rfl, h4.1, by omega, f1, by omega⟩
      rw [hok, Bool.true_and, Bool.not_eq_true', List.any_eq_false]
      intro t htm hcl
      have g1 := List.any_eq_false.1 ht t htm
      have g2 := List.any_eq_false.1 f3 t htm
      simp only [clash, holdsR, holdsS, Bool.and_eq_true, Bool.or_eq_true, decide_eq_true_eq] at hcl g1 g2
      rcases hcl with ⟨hpl, hrs⟩
      rcases hrs with e | e
      · exact g1 ⟨hpl, e⟩
      · exact g2 ⟨hpl, e⟩
    · rfl
/-- Swap's answer, whatever it is. -/
def SwU (a0 a1 a2 a3 a4 a5 n : Int) (m : Nat) (w : World) (e : Ending) (w' : World) : Prop :=
  ∃ (b0 b1 b2 b3 b4 b5 bn er : Int) (sa : Option Addr) (c : Nat) (xs : List S8), e = .returned (.tuple #[vSp b0 b1 b2 b3 b4 b5 bn (.slice sa xs.length c), .int .i64 er]) ∧
    w'.ownsRow w.heap.size 38 8 (.slice sa xs.length c) xs.length (xs.flatMap sC) ∧ Below w.heap.size w w' ∧
    (er = 0 → b0 = a0 ∧ b1 = a1 ∧ b2 = a2 ∧ b3 = a3 ∧ b4 = a4 ∧ b5 = a5 ∧ bn = n ∧ SpV a0 a1 a2 a3 a4 a5 n xs c ∧ xs.length ≤ m + 1 ∧ (xs = [] → sa = none))
theorem SwU.err {a0 a1 a2 a3 a4 a5 n : Int} {m : Nat} {w : World} {er : Int} (h : er ≠ 0) : ∀ e w', Gives (.tuple #[vSp 0 0 0 0 0 0 0 (.slice none 0 0), .int .i64 er]) w e w' → SwU a0 a1 a2 a3 a4 a5 n m w e w' := by
  rintro e w' ⟨rfl, hb⟩
  exact ⟨0, 0, 0, 0, 0, 0, 0, er, none, 0, [], rfl, World.ownsRow_nil _ _ _ _, hb, fun h0 => absurd h0 h⟩
theorem qswap_uni {a0 a1 a2 a3 a4 a5 n p0 p1 p2 p3 p4 p5 : Int} {xs : List S8} {c : Nat} (h : SpV a0 a1 a2 a3 a4 a5 n xs c) (hp : PV a0 a1 a2 a3 a4 a5 p0 p1 p2 p3 p4 p5) {sa : Option Addr} (h0 : xs = [] → sa = none) (w : World) (hl : Lies w w.heap.size sa 8 xs.length (fun j => sC xs[j]!)) :
    Calls Try.prog 27 #[vSp a0 a1 a2 a3 a4 a5 n (.slice sa xs.length c), v6 p0 p1 p2 p3 p4 p5] w (SwU a0 a1 a2 a3 a4 a5 n xs.length w) := by
  refine (qswap_any h hp w hl).mono fun e w' hR => ?_
  unfold SwapR at hR
  by_cases hr : rwz a4 - n ≤ p4
  · rw [if_pos hr] at hR; exact SwU.err (by decide) _ _ hR
  · rw [if_neg hr] at hR
    by_cases ht : xs.any (holdsR p0 p1 p2 p3 p4) = true
    · rw [if_pos ht] at hR; exact SwU.err (by decide) _ _ hR
    · rw [if_neg ht] at hR
      cases hf : freeK (rwz a4 - n) p0 p1 p2 p3 xs n.toNat with
      | nil => rw [hf] at hR; exact SwU.err (by decide) _ _ hR
      | cons f0 fs =>
        rw [hf] at hR
        dsimp only at hR
        by_cases h16 : xs.length = 16
        · rw [if_pos h16] at hR; exact SwU.err (by decide) _ _ hR
        · rw [if_neg h16] at hR
          obtain ⟨sb, d, rfl, hrow, hb⟩ := hR
          have hlen := h.len
          have hcap : xs.length + 1 ≤ d := by
            obtain ⟨-, -, -, hh⟩ := ownsRow_ptr hrow (by rw [List.length_append]; exact Nat.succ_pos _)
            rw [List.length_append] at hh
            exact hh
          exact ⟨a0, a1, a2, a3, a4, a5, n, 0, sb, d, _, rfl, hrow, hb, fun _ => ⟨rfl, rfl, rfl, rfl, rfl, rfl, rfl, h.more hp hr (by simpa using ht) hf (by omega) hcap, by rw [List.length_append]; exact Nat.le_refl _, fun e => absurd e (by simp)⟩⟩
def SpPost (B b : Nat) (w : World) (e : Ending) (w' : World) : Prop :=
  ∃ (s0 s1 s2 s4 n : Int) (sa : Option Addr) (c : Nat) (xs : List S8), e = .returned (vSp s0 s1 s2 1 s4 2 n (.slice sa xs.length c)) ∧ w'.ownsRow w.heap.size 38 8 (.slice sa xs.length c) xs.length (xs.flatMap sC) ∧
    MS s0 s1 s2 s4 ∧ SpV s0 s1 s2 1 s4 2 n xs c ∧ xs.length ≤ 7 ∧ (xs = [] → sa = none) ∧ Dice B w' b ∧ Chg b w w'
set_option maxHeartbeats 8000000 in
theorem mspares_any (B b : Nat) (w : World) (hd : Dice B w b) (hB : B ≤ w.heap.size) : Calls Try.prog 17 #[.pointer (some ⟨b, 0, none⟩)] w (SpPost B b w) := by
  go_enter Try.func17, Try.ntmps17
  have H := HS.startDice hd hB
  have C := H.cells
  try simp only [cellsOf, apartOf, and_true] at C
  clear hd
  go_wp2_with fail
  refine (mshape_any B b _ (H.alloc.at 0 rfl) (Nat.le_trans hB H.alloc.size)).mono ?_
  rintro _ w1 ⟨s0, s1, s2, s4, rfl, hms, hd, hg⟩
  replace H := (H.alloc).diceAt 0 rfl hg hd
  clear hg hd
  try clear C
  try simp only [World.size_alloc, List.nil_append, List.cons_append, List.append_assoc] at H
  generalize w.heap.size = bR at H ⊢
  have C := H.cells
  try simp only [cellsOf, apartOf, and_true] at C
  dsimp only
  have sv := hms.sv
  have hz := rwz_in sv
  have h4 := hms.h4
  have q1 := wrap_pw (a := s4) (by omega)
  have q4 : (2 : Int) ^ s4.toNat = rwz s4 := rfl
  go_upto_region 2 with fail
  refine wp_region_fH (by kernel_rfl) [0, 1, 2, 3, 4, 5, 6, 7, 8, 9, 10, 11, 12, 13] (by kernel_rfl) (by kernel_rfl) (by kernel_rfl) (OneD b) (H.alloc) ?_
  clear H; intro w2 H hz0
  try clear C
  try simp only [World.size_alloc, List.nil_append, List.cons_append, List.append_assoc] at H hz0 ⊢
  generalize w1.heap.size = bS at H hz0 ⊢
  clear hz0
  try clear w1
  have C := H.cells
  try simp only [cellsOf, apartOf, and_true] at C
  simp only [List.filterMap_cons, List.filterMap_nil, List.getElem?_toArray, List.getElem?_cons_zero, List.getElem?_cons_succ]
  (refine wpF_load rfl rfl rfl (by simp [Stay, OneD, NoD, *]) (by simp [*]) (fun _ _ => ?_); go_step; go_step)
  (refine wpF_free rfl rfl rfl (fun _ _ => ?_); go_step; go_step)
  (refine wpF_free rfl rfl rfl (fun _ _ => ?_); go_step; go_step)
  (refine wpF_load rfl rfl rfl (by simp [Stay, OneD, NoD, *]) (by simp [*]) (fun _ _ => ?_); go_step; go_step)
  (refine wpF_free rfl rfl rfl (fun _ _ => ?_); go_step; go_step)
  (refine wpF_free rfl rfl rfl (fun _ _ => ?_); go_step; go_step)
  (refine wpF_call rfl rfl (fun wc hc _ _ => ?_); go_step; refine (next_any (rwz s4) (by omega) B b _ (hc.inv.at 0 rfl)).mono ?_; rintro _ wd ⟨n, rfl, hn, hd, hg⟩; dsimp only; go_step; refine ⟨hc.chgS hg rfl (Dice.lt (H.at 0 rfl)) (hc.inv.diceAt 0 rfl hg hd), hc.chgK hg (Dice.lt (H.at 0 rfl)), ?_⟩; clear hg hd hc wc wd)
  replace hn : 0 ≤ n ∧ n < rwz s4 := ⟨hn.1, hn.lt (by omega)⟩
  have HNEW := Lib.hid (fun w => qnew_yes (n := n) sv hn w)
  (refine wpF_call rfl rfl (fun wc hc _ _ => ?_); go_step; refine (HNEW.out _).mono ?_; rintro _ wd ⟨rfl, hb⟩; dsimp only; go_step; refine ⟨hc.below (fun _ h => h.lt) hb (hc.inv.below hb), fun k _ hk => hb.block k hk, ?_⟩; clear hb hc wc wd)
  (refine wpF_free rfl rfl rfl (fun _ _ => ?_); go_step; go_step)
  (refine wpF_free rfl rfl rfl (fun _ _ => ?_); go_step; go_step)
  (refine wpF_free rfl rfl rfl (fun _ _ => ?_); go_step; go_step)
  (refine wpF_float rfl rfl #[.int .i64 0, .int .i64 0, .int .i64 0, .int .i64 0, .int .i64 0, .int .i64 0, .int .i64 0, .slice none 0 0]   26 (fun w => by kernel_rfl) (fun bX hbX nbX _ _ => ?_); go_simp; go_step)
  (refine wpF_store (cs := #[.int .i64 s0, .int .i64 s1, .int .i64 s2, .int .i64 1, .int .i64 s4, .int .i64 2, .int .i64 n, .slice none 0 0]) rfl rfl rfl rfl (Fl.at _ _ _) rfl (by kernel_rfl) rfl rfl (fun _ _ => ?_); go_simp; go_step)
  (refine wpF_free rfl rfl rfl (fun _ _ => ?_); go_step; go_step)
  refine wpF_nil ?_
  intro w3 hC
  replace H := H.floats1 hC (Fl.at _ _ _)
  clear hC C hbX nbX w2
  try simp only [List.nil_append, List.cons_append, List.append_assoc] at H
  have C := H.cells
  try simp only [cellsOf, apartOf, and_true] at C
  go_step
  go_step
  go_wp2_with fail
  refine (next_any 8 (by omega) B b _ (H.at 0 rfl)).mono ?_
  rintro _ w4 ⟨k0, rfl, hk0, hd, hg⟩
  replace H := (H).diceAt 0 rfl hg hd
  clear hg hd
  try clear C
  try simp only [World.size_alloc, List.nil_append, List.cons_append, List.append_assoc] at H
  try clear w3
  have C := H.cells
  try simp only [cellsOf, apartOf, and_true] at C
  dsimp only
  replace hk0 : 0 ≤ k0 ∧ k0 < 8 := ⟨hk0.1, hk0.lt (by decide)⟩
  go_wp2_with fail
  have hnr := H.nilRow 38 8
  clear H
  have H := hnr
  clear hnr
  try simp only [List.nil_append, List.cons_append] at H
  have hnil : ∀ c, SpV s0 s1 s2 1 s4 2 n [] c := fun c => SpV.nil sv hn c
  have HNIL := Lib.hid hnil
  clear hnil q1 q4
  go_loopw [6] (fun kk wr => ∃ (k : Int) (sa : Option Addr) (c : Nat) (xs : List S8), kk = .int .i64 k ∧ 0 ≤ k ∧ (xs.length : Int) + k ≤ 7 ∧ Hid (SpV s0 s1 s2 1 s4 2 n xs c) ∧ Hid (xs = [] → sa = none) ∧ HS (OneD b) w [.dice B b, .blk bR #[.int .i64 0, .int .i64 0, .int .i64 0, .int .i64 0, .int .i64 0, .int .i64 0, .int .i64 0, .slice none 0 0] 26, .blk bS #[.int .i64 s0, .int .i64 s1, .int .i64 s2, .int .i64 1, .int .i64 s4, .int .i64 2] 23, .blk bX #[.int .i64 s0, .int .i64 s1, .int .i64 s2, .int .i64 1, .int .i64 s4, .int .i64 2, .int .i64 n, .slice sa xs.length c] 26, .row (.slice sa xs.length c) 38 8 xs.length (xs.flatMap sC)] wr) (fun kk _ => (intOf kk).toNat)
  case atStart => exact ⟨k0, none, 0, [], rfl, hk0.1, by simp; omega, HNIL.out 0, fun _ => rfl, H⟩
  case round =>
    clear H C w4
    obtain ⟨k, sa, c, xs, rfl, hk1, hk2, HV, HZ0, H⟩ := hrel
    skip
    try clear C
    try simp only [World.size_alloc, List.nil_append, List.cons_append, List.append_assoc] at H
    have C := H.cells
    try simp only [cellsOf, apartOf, and_true] at C
    by_cases hk : 0 < k
    · have HQ := Lib.hid (fun (p0 p1 p2 p3 p4 p5 : Int) (hp : PV s0 s1 s2 1 s4 2 p0 p1 p2 p3 p4 p5) w hl => qswap_uni HV.out hp HZ0.out (sa := sa) w hl)
      go_upto_region 6 with fail
      go_cut [7, 8] from 28 to 35 (fun y ee wx => ∃ (by' : Nat) (b0 b1 b2 b3 b4 b5 bn er : Int) (sb : Option Addr) (d : Nat) (ys : List S8), y = .pointer (some ⟨by', 0, none⟩) ∧ ee = .int .i64 er ∧
        Hid (er = 0 → b0 = s0 ∧ b1 = s1 ∧ b2 = s2 ∧ b3 = 1 ∧ b4 = s4 ∧ b5 = 2 ∧ bn = n ∧ SpV s0 s1 s2 1 s4 2 n ys d ∧ ys.length ≤ xs.length + 1 ∧ (ys = [] → sb = none)) ∧
        HS (OneD b) w [.dice B b, .blk bR #[.int .i64 0, .int .i64 0, .int .i64 0, .int .i64 0, .int .i64 0, .int .i64 0, .int .i64 0, .slice none 0 0] 26, .blk bS #[.int .i64 s0, .int .i64 s1, .int .i64 s2, .int .i64 1, .int .i64 s4, .int .i64 2] 23, .blk bX #[.int .i64 s0, .int .i64 s1, .int .i64 s2, .int .i64 1, .int .i64 s4, .int .i64 2, .int .i64 n, .slice sa xs.length c] 26, .row (.slice sa xs.length c) 38 8 xs.length (xs.flatMap sC), .row (.slice sb ys.length d) 38 8 ys.length (ys.flatMap sC), .blk by' #[.int .i64 b0, .int .i64 b1, .int .i64 b2, .int .i64 b3, .int .i64 b4, .int .i64 b5, .int .i64 bn, .slice sb ys.length d] 26] wx)
      case first =>
        go_region_law (first
          | (go_simp; go_at_call 20
             first
              | (refine (place_any sv B b _ (H.drew.at 0 rfl)).mono ?_; have H0 := H.drew)
              | (refine (place_any sv B b _ (H.drew.alloc.at 0 rfl)).mono ?_; have H0 := H.drew.alloc (cs := #[.int .i64 0, .int .i64 0, .int .i64 0, .int .i64 0, .int .i64 0, .int .i64 0, .int .i64 0, .slice none 0 0]) (t := 26); rw [show (World.drew wr).heap.size = (wr).heap.size from rfl] at H0)
             rintro _ wa ⟨p0, p1, p2, p3, p4, p5, rfl, hpv, hd, hg⟩
             have H1 := H0.diceAt 0 rfl hg hd
             have C1 := H1.cells
             simp only [cellsOf, apartOf, and_true, List.cons_append, List.nil_append] at C1
             clear hg hd H0)
          | (go_simp; go_at_call 27
             first
              | (refine (HQ.out _ _ _ _ _ _ hpv _ (H1.rowLies 4 sC_len rfl rfl)).mono ?_; have H2 := H1)
              | (refine (HQ.out _ _ _ _ _ _ hpv _ (H1.alloc.rowLies 4 sC_len rfl rfl)).mono ?_; have H2 := H1.alloc (cs := #[.int .i64 0, .int .i64 0, .int .i64 0, .int .i64 0, .int .i64 0, .int .i64 0, .int .i64 0, .slice none 0 0]) (t := 26))
             rintro _ wb ⟨b0, b1, b2, b3, b4, b5, bn, er, sb, d, ys, rfl, hrow, hb, her⟩
             have HER := Lib.hid her
             have H3 := H2.getsRow hb hrow
             have C3 := H3.cells
             simp only [cellsOf, apartOf, and_true, List.cons_append, List.nil_append] at C3
             clear hb hrow her H2))
        all_goals go_wp2_with fail
        all_goals go_meet
        all_goals refine ⟨_, b0, b1, b2, b3, b4, b5, bn, er, sb, d, ys, rfl, rfl, HER, ?_⟩
        all_goals first
          | exact H3.alloc
          | (show HS (OneD b) w ([.dice B b, .blk bR #[.int .i64 0, .int .i64 0, .int .i64 0, .int .i64 0, .int .i64 0, .int .i64 0, .int .i64 0, .slice none 0 0] 26, .blk bS #[.int .i64 s0, .int .i64 s1, .int .i64 s2, .int .i64 1, .int .i64 s4, .int .i64 2] 23, .blk bX #[.int .i64 s0, .int .i64 s1, .int .i64 s2, .int .i64 1, .int .i64 s4, .int .i64 2, .int .i64 n, .slice sa xs.length c] 26, .row (.slice sa xs.length c) 38 8 xs.length (xs.flatMap sC)] ++ [.row (.slice sb ys.length d) 38 8 ys.length (ys.flatMap sC), .blk _ #[.int .i64 b0, .int .i64 b1, .int .i64 b2, .int .i64 b3, .int .i64 b4, .int .i64 b5, .int .i64 bn, .slice sb ys.length d] 26]) _
             exact HS.lastTwo (H3.putAll (i := 5) rfl (vs := [.int .i64 b0, .int .i64 b1, .int .i64 b2, .int .i64 b3, .int .i64 b4, .int .i64 b5, .int .i64 bn, .slice sb ys.length d]) rfl rfl))
      case rest =>
        clear H C
        obtain ⟨by', b0, b1, b2, b3, b4, b5, bn, er, sb, d, ys, rfl, rfl, HER, H⟩ := hcut
        skip
        try clear C
        try simp only [World.size_alloc, List.nil_append, List.cons_append, List.append_assoc] at H
        have C := H.cells
        try simp only [cellsOf, apartOf, and_true] at C
        skip
        by_cases her0 : er = 0
        · obtain ⟨rfl, rfl, rfl, rfl, rfl, rfl, rfl, hv, hyl, hy0⟩ := HER.out her0
          have HV2 := Lib.hid hv
          have HY0 := Lib.hid hy0
          subst her0
          clear hv hy0
          go_wp2_with fail
          have H := H.putAll (i := 3) rfl (vs := [.int .i64 b0, .int .i64 b1, .int .i64 b2, .int .i64 1, .int .i64 b4, .int .i64 2, .int .i64 bn, .slice sb ys.length d]) rfl rfl
          go_roundw
          case rel => exact ⟨k - 1, sb, d, ys, by go_num, by omega, by omega, HV2, HY0, H.less (by repeat (first | exact .slnil | refine .cons_cons _ ?_ | refine .cons _ ?_))⟩
          case measure => simp [intOf]; omega
        · have heb : (er == 0) = false := beq_eq_false_iff_ne.2 her0
          skip
          go_wp2_with fail
          go_roundw
          case rel => exact ⟨k - 1, sa, c, xs, by go_num, by omega, by omega, HV, HZ0, H.less (by repeat (first | exact .slnil | refine .cons_cons _ ?_ | refine .cons _ ?_))⟩
          case measure => simp [intOf]; omega
    · skip
      go_wp2_with fail
      generalize hwb : (((((((wr.setCell _ _).setCell _ _).setCell _ _).setCell _ _).setCell _ _).setCell _ _).setCell _ _).setCell _ _ = w5
      replace H := HS.eqW hwb (H.putAll (i := 1) rfl (vs := [.int .i64 s0, .int .i64 s1, .int .i64 s2, .int .i64 1, .int .i64 s4, .int .i64 2, .int .i64 n, .slice sa xs.length c]) rfl rfl)
      simp only [List.nil_append, List.cons_append, List.append_assoc, List.set_cons_succ, List.set_cons_zero] at H
      clear hwb
      try clear C
      try clear wr
      have C := H.cells
      try simp only [cellsOf, apartOf, and_true] at C
      refine bodyPost_ret (by simp [results, Try.results17, go_sem, C]; try rfl) rfl ?_
      exact ⟨s0, s1, s2, s4, n, sa, c, xs, rfl, H.rowOutD 4 0 rfl rfl (by decide), hms, HV.out, by omega, HZ0.out, H.at 0 rfl, H.doneDice⟩
end Go.Proofs.Ytcacgmfihhpliaa
