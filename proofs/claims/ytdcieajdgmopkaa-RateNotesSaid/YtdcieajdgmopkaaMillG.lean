/- mill.Gauges: valid gauges out of a stream of numbers. -/
import Derived.Test.YtdcieajdgmopkaaRate4
import Derived.Test.YtdcieajdgmopkaaDice
import Derived.Deep.RegionLaw
import Derived.Deep.RegionWith
namespace Go.Proofs.Ytdcieajdgmopkaa
set_option linter.unusedSimpArgs false
set_option linter.unusedVariables false
open Go.RowKit
set_option maxRecDepth 100000
attribute [local go_sem] lt_more ne_more ne_more'

theorem HS.rowOutD {b : Nat} {W w : World} {L : List Item} (h : HS (OneD b) W L w) (k d : Nat) {B : Nat} {v : Value} {e : TypeId} {s n : Nat} {xs : List Value} (hk : L[k]? = some (.row v e s n xs)) (hd : L[d]? = some (.dice B b)) (hkd : k ≠ d) : w.ownsRow W.heap.size e s v n xs := by
  have h1 : w.ownsRow 0 e s v n xs := h.at k hk
  have h2 := h.own _ (List.mem_of_getElem? hk)
  have h0 := h1
  obtain ⟨h3, h4⟩ := h1
  refine ⟨h3, ?_⟩
  rcases h4 with h4 | ⟨g, cap, cur, hv, hg, r⟩
  · exact .inl h4
  · refine .inr ⟨g, cap, cur, hv, ?_, r⟩
    have hfp : (Item.row v e s n xs).fp g := by show v.ownBlock = some g; rw [hv]; rfl
    rcases h2 g hfp with h | h'
    · exact h
    · have : g = b := h'
      subst this
      exact absurd rfl (h.apart hk hd hkd hfp)
/-- What mill.Gauges makes. -/
structure MG (P L : Int) (xs : List G3) : Prop where
  P1 : 1 ≤ P ∧ P ≤ 12
  L1 : 1 ≤ L ∧ L ≤ 5
  len : xs.length ≤ 5
  all : ∀ x ∈ xs, 0 < x.p ∧ x.p ≤ 15 ∧ 1 ≤ x.l ∧ x.l ≤ 6 ∧ 0 ≤ x.t ∧ x.t < 40
  sorted : xs.Pairwise fun x y => x.p < y.p
theorem okF_of : ∀ {xs : List G3} {last : Int}, (∀ x ∈ xs, last < x.p ∧ 1 ≤ x.l ∧ x.l ≤ 1048576 ∧ 0 ≤ x.t ∧ x.t ≤ 1099511627776) → (xs.Pairwise fun x y => x.p < y.p) → okF last xs = true
  | [], _, _, _ => rfl
  | x :: xs, last, h, hp => by
    obtain ⟨h1, h2⟩ := List.pairwise_cons.1 hp
    have hx := h x (by simp)
    simp only [okF, Bool.and_eq_true, decide_eq_true_eq]
    exact ⟨⟨⟨hx.1, hx.2.1, hx.2.2.1⟩, hx.2.2.2⟩, okF_of (fun y hy => ⟨h1 y hy, (h y (by simp [hy])).2⟩) h2⟩
theorem MG.valid {P L : Int} {xs : List G3} (h : MG P L xs) : rvB P L xs = true := by
  have h1 := okF_of (last := -1) (fun x hx => by have := h.all x hx; omega) h.sorted
  have := h.P1; have := h.L1; have := h.len
  simp only [rvB, h1, Bool.true_and, Bool.and_eq_true, decide_eq_true_eq]
  omega
def GaugesPost (B b : Nat) (w : World) (e : Ending) (w' : World) : Prop :=
  ∃ P L xs sa c, e = .returned (vG P L (.slice sa xs.length c)) ∧ w'.ownsRow w.heap.size 33 3 (.slice sa xs.length c) xs.length (xs.flatMap gC) ∧ MG P L xs ∧ Dice B w' b ∧ Chg b w w'

set_option maxHeartbeats 4000000 in
theorem gauges_any (B b : Nat) (w : World) (hd : Dice B w b) (hB : B ≤ w.heap.size) : Calls Try.prog 6 #[.pointer (some ⟨b, 0, none⟩)] w (GaugesPost B b w) := by
  obtain ⟨i, i1, i2, i3, i4⟩ := elemG.hi
  go_enter Try.func6, Try.ntmps6
  have H := HS.startDice hd hB
  have C := H.cells
  try simp only [cellsOf, apartOf, and_true] at C
  clear hd
  go_wp2_with fail
  refine (next_any 12 (by omega) B b _ (H.alloc.at 0 rfl)).mono ?_
  rintro _ w1 ⟨p0, rfl, hp0, hd, hg⟩
  replace H := (H.alloc).diceAt 0 rfl hg hd
  clear hg hd
  try clear C
  try simp only [World.size_alloc, List.nil_append, List.cons_append, List.append_assoc] at H
  generalize w.heap.size = bR at H ⊢
  have C := H.cells
  try simp only [cellsOf, apartOf, and_true] at C
  dsimp only
  replace hp0 : 0 ≤ p0 ∧ p0 < 12 := ⟨hp0.1, hp0.lt (by decide)⟩
  go_wp2_with fail
  refine (next_any 5 (by omega) B b _ (H.at 0 rfl)).mono ?_
  rintro _ w2 ⟨l0, rfl, hl0, hd, hg⟩
  replace H := (H).diceAt 0 rfl hg hd
  clear hg hd
  try clear C
  try simp only [World.size_alloc, List.nil_append, List.cons_append, List.append_assoc] at H
  try clear w1
  have C := H.cells
  try simp only [cellsOf, apartOf, and_true] at C
  dsimp only
  replace hl0 : 0 ≤ l0 ∧ l0 < 5 := ⟨hl0.1, hl0.lt (by decide)⟩
  go_wp2_with fail
  refine (next_any 6 (by omega) B b _ (H.alloc.at 0 rfl)).mono ?_
  rintro _ w3 ⟨k0, rfl, hk0, hd, hg⟩
  replace H := (H.alloc).diceAt 0 rfl hg hd
  clear hg hd
  try clear C
  try simp only [World.size_alloc, List.nil_append, List.cons_append, List.append_assoc] at H
  generalize w2.heap.size = bO at H ⊢
  try clear w2
  have C := H.cells
  try simp only [cellsOf, apartOf, and_true] at C
  dsimp only
  replace hk0 : 0 ≤ k0 ∧ k0 < 6 := ⟨hk0.1, hk0.lt (by decide)⟩
  go_wp2_with fail
  have hn := H.nilRow 33 3
  clear H
  have H := hn
  clear hn
  try simp only [List.nil_append, List.cons_append] at H
  go_loopw [4, 5] (fun pt kk wr => ∃ (part k : Int) (xs : List G3) (v : Value), pt = .int .i64 part ∧ kk = .int .i64 k ∧ 0 ≤ k ∧ xs.length + k ≤ 5 ∧ 0 ≤ part ∧ part + 3 * k ≤ 15 ∧ Hid (∀ x ∈ xs, 0 < x.p ∧ x.p ≤ part ∧ 1 ≤ x.l ∧ x.l ≤ 6 ∧ 0 ≤ x.t ∧ x.t < 40) ∧ Hid (xs.Pairwise fun x y => x.p < y.p) ∧ HS (OneD b) w [.dice B b, .blk bR #[.int .i64 0, .int .i64 0, .slice none 0 0] 24, .blk bO #[.int .i64 (1 + p0), .int .i64 (1 + l0), v] 24, .row v 33 3 xs.length (xs.flatMap gC)] wr) (fun _ kk _ => (intOf kk).toNat)
  case atStart => exact ⟨0, k0, [], _, rfl, rfl, hk0.1, by simp; omega, by decide, by omega, fun x hx => (List.not_mem_nil hx).elim, .nil, H⟩
  case round =>
    clear H C w3
    obtain ⟨part, k, xs, v, rfl, rfl, hk1, hk2, hp1, hp2, HA, HP, H⟩ := hrel
    skip
    try clear C
    try simp only [World.size_alloc, List.nil_append, List.cons_append, List.append_assoc] at H
    have C := H.cells
    try simp only [cellsOf, apartOf, and_true] at C
    by_cases hk : 0 < k
    · go_wp2_with fail
      refine (next_any 3 (by omega) B b _ (H.at 0 rfl)).mono ?_
      rintro _ w4 ⟨d, rfl, hd3, hd, hg⟩
      replace H := (H).diceAt 0 rfl hg hd
      clear hg hd
      try clear C
      try simp only [World.size_alloc, List.nil_append, List.cons_append, List.append_assoc] at H
      try clear wr
      have C := H.cells
      try simp only [cellsOf, apartOf, and_true] at C
      dsimp only
      replace hd3 : 0 ≤ d ∧ d < 3 := ⟨hd3.1, hd3.lt (by decide)⟩
      go_upto_region 7 with fail
      go_region_law (first
        | (go_simp; go_at_call_of 15 (Value.int .i64 6); refine (next_any 6 (by omega) B b _ (H.drew.at 0 rfl)).mono ?_; rintro _ wa ⟨lv, rfl, hlv, hd, hg⟩; have H1 := H.drew.diceAt 0 rfl hg hd; have C1 := H1.cells; simp only [cellsOf, apartOf, and_true] at C1; clear hg hd; replace hlv : 0 ≤ lv ∧ lv < 6 := ⟨hlv.1, hlv.lt (by decide)⟩; have q5 : IntKind.i64.wrap (1 + lv) = 1 + lv := IntWalk.i64_in _ (by omega); have q6 : wrap64 (1 + lv) = 1 + lv := IntWalk.wrap64_in _ (by omega))
        | (go_simp; go_at_call_of 15 (Value.int .i64 40); refine (next_any 40 (by omega) B b _ (H1.at 0 rfl)).mono ?_; rintro _ wb ⟨tm, rfl, htm, hd, hg⟩; have H2 := H1.diceAt 0 rfl hg hd; have C2 := H2.cells; simp only [cellsOf, apartOf, and_true] at C2; clear hg hd; replace htm : 0 ≤ tm ∧ tm < 40 := ⟨htm.1, htm.lt (by decide)⟩)
        | (have HA := H2.alloc (cs := #[.int .i64 (part + (1 + d)), .int .i64 (1 + lv), .int .i64 tm]) (t := 33); refine step_append_lies (hgd := rfl) (s := .tmp 25) (x := .tmp 33) (t := 22) (ho := rfl) (base := 0) (e := 33) (i := i) (z := _) (size := 3) (bytes := 24) (ht := elemG.ht) (hi := i1) (hz := i2) (hsize := i3) (hby := i4) (hzs := elemG.hzs) (hsz := elemG.pos) (v := v) (n := xs.length) (xs := xs.flatMap gC) (hs := by simp [Act.eval, Act.put]) (hown := HA.at 3 rfl) (ad := ⟨wb.heap.size, 0, none⟩) (m := 1) (c := 1) (news := [.int .i64 (part + (1 + d)), .int .i64 (1 + lv), .int .i64 tm]) (hx := by simp [Act.eval, Act.put]) (hl := rfl) (hnews := World.news_of_block (HA.at 4 rfl)) (h1 := fun u hu => List.all_eq_true.1 (show [Value.int .i64 (part + (1 + d)), .int .i64 (1 + lv), .int .i64 tm].all (·.oneCell') = true from rfl) u hu) (hm := by decide) (h63 := by unfold maxLen; omega) (hbytes := by omega) (hbase := Nat.zero_le _) (H := _) (hH := rfl) (h := fun g cap wz h2 h3 h4 h5 => ?_); have H3 := HA.grewAt 3 rfl h2 h3 h4; clear HA; have C3 := H3.cells; clear h2 h3 h4; simp only [List.nil_append, List.cons_append, List.append_assoc, List.set_cons_succ, List.set_cons_zero, cellsOf, apartOf, and_true] at H3 C3))
      all_goals go_step
      all_goals go_wp2_with fail
      all_goals go_roundw
      all_goals first
        | (simp [intOf]; omega)
        | (refine ⟨part + (1 + d), k - 1, xs ++ [(⟨part + (1 + d), 1 + lv, tm⟩ : G3)], .slice (some ⟨g, 0, none⟩) (xs.length + 1) cap, rfl, by go_num, by omega, by simp; omega, by omega, by omega, (show Hid _ from fun x hx => ?_), (show Hid _ from ?_), ?_⟩
           · rcases List.mem_append.1 hx with hx | hx
             · have := HA.out x hx; omega
             · rw [List.mem_singleton.1 hx]; dsimp only; omega
           · refine List.pairwise_append.2 ⟨HP.out, List.pairwise_singleton _ _, fun x hx y hy => ?_⟩
             rw [List.mem_singleton.1 hy]
             have := HA.out x hx; dsimp only; omega
           · have H4 := H3.setTo (o := 2) (v := .slice (some ⟨g, 0, none⟩) (xs.length + 1) cap) 2 rfl rfl
             rw [List.length_append, List.flatMap_append]
             exact H4.less (by repeat (first | exact .slnil | refine .cons_cons _ ?_ | refine .cons _ ?_)))
    · obtain ⟨sb, dd, rfl⟩ := ownsRow_slice (H.at 3 rfl)
      skip
      try clear C
      try simp only [World.size_alloc, List.nil_append, List.cons_append, List.append_assoc] at H
      have C := H.cells
      try simp only [cellsOf, apartOf, and_true] at C
      go_wp2_with fail
      generalize hwb : ((wr.setCell _ _).setCell _ _).setCell _ _ = w5
      replace H := HS.eqW hwb (H.putAll (i := 1) rfl (vs := [.int .i64 (1 + p0), .int .i64 (1 + l0), .slice sb xs.length dd]) rfl rfl)
      simp only [List.nil_append, List.cons_append, List.append_assoc, List.set_cons_succ, List.set_cons_zero] at H
      clear hwb
      try clear C
      try clear wr
      have C := H.cells
      try simp only [cellsOf, apartOf, and_true] at C
      refine bodyPost_ret (by simp [results, Try.results6, go_sem, C]; try rfl) rfl ?_
      refine ⟨1 + p0, 1 + l0, xs, sb, dd, rfl, H.rowOutD 3 0 rfl rfl (by decide), ⟨by omega, by omega, by omega, fun x hx => ?_, HP.out⟩, H.at 0 rfl, H.doneDice⟩
      have := HA.out x hx
      omega
end Go.Proofs.Ytdcieajdgmopkaa
