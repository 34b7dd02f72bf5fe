/- The statement RateApart: its walk. -/
import Derived.Test.YtcacgmfihhpliaaNote
import Derived.Test.YtcacgmfihhpliaaTwice
namespace Go.Proofs.Ytcacgmfihhpliaa
set_option linter.unusedSimpArgs false
set_option linter.unusedVariables false
open Go.RowKit
set_option maxRecDepth 100000
attribute [local go_sem] lt_more ne_more ne_more'
attribute [local irreducible] wpX wpF Calls

/-- The level of a part: that of the last gauge that has it. -/
def lastL (part : Int) (l0 : Int) : List G3 → Int
  | [] => l0
  | x :: xs => lastL part (if x.p = part then x.l else l0) xs
theorem lastL_append (part l0 : Int) : ∀ (xs : List G3) (y : G3), lastL part l0 (xs ++ [y]) = if y.p = part then y.l else lastL part l0 xs
  | [], y => rfl
  | x :: xs, y => by
    show lastL part _ (xs ++ [y]) = _
    rw [lastL_append]
    rfl
theorem lastL_take {part l0 : Int} {xs : List G3} {j : Nat} (hj : j < xs.length) : lastL part l0 (xs.take (j + 1)) = if xs[j]!.p = part then xs[j]!.l else lastL part l0 (xs.take j) := by
  rw [List.take_add_one, List.getElem?_eq_getElem hj]
  show lastL part l0 (xs.take j ++ [xs[j]]) = _
  rw [lastL_append, getElem!_pos xs j hj]
theorem lastL_none {part l0 : Int} : ∀ {xs : List G3}, (∀ x ∈ xs, x.p ≠ part) → lastL part l0 xs = l0
  | [], _ => rfl
  | x :: xs, h => by
    show lastL part _ xs = l0
    rw [if_neg (h x (by simp))]
    exact lastL_none fun y hy => h y (by simp [hy])
theorem lastL_mid {part l0 : Int} : ∀ {xs ys : List G3} {z : G3}, z.p = part → (∀ x ∈ ys, x.p ≠ part) → lastL part l0 (xs ++ z :: ys) = z.l
  | [], ys, z, hz, hy => by
    show lastL part _ ys = z.l
    rw [if_pos hz]
    exact lastL_none hy
  | x :: xs, ys, z, hz, hy => by
    show lastL part _ (xs ++ z :: ys) = z.l
    exact lastL_mid hz hy
theorem sorted_ne {ys : List G3} (h : ys.Pairwise fun x y => x.p < y.p) {i : Nat} (hi : i < ys.length) : (∀ x ∈ ys.take i, x.p < ys[i]!.p) ∧ ∀ x ∈ ys.drop (i + 1), ys[i]!.p < x.p := by
  rw [List.pairwise_iff_getElem] at h
  rw [getElem!_pos ys i hi]
  constructor
  · intro x hx
    obtain ⟨k, hk, rfl⟩ := List.getElem_of_mem hx
    rw [List.length_take] at hk
    rw [List.getElem_take]
    exact h k i (by omega) hi (by omega)
  · intro x hx
    obtain ⟨k, hk, rfl⟩ := List.getElem_of_mem hx
    rw [List.length_drop] at hk
    rw [List.getElem_drop]
    exact h i _ hi (by omega) (by omega)
theorem rv_of {P L : Int} {A B : List G3} {z : G3} (hP : 1 ≤ P ∧ P ≤ 12) (hL : 1 ≤ L ∧ L ≤ 5) (hlen : (A ++ z :: B).length ≤ 64) (hA : A.Pairwise fun x y => x.p < y.p) (hB : B.Pairwise fun x y => x.p < y.p) (h1 : ∀ a ∈ A, a.p < z.p) (h2 : ∀ b ∈ B, z.p < b.p)
    (hall : ∀ x ∈ A ++ z :: B, 0 ≤ x.p ∧ 1 ≤ x.l ∧ x.l ≤ 1048576 ∧ 0 ≤ x.t ∧ x.t ≤ 1099511627776) : rvB P L (A ++ z :: B) = true := by
  have hs : (A ++ z :: B).Pairwise fun x y => x.p < y.p := List.pairwise_append.2 ⟨hA, List.pairwise_cons.2 ⟨h2, hB⟩, fun a ha b hb => by
    rcases List.mem_cons.1 hb with rfl | hb
    · exact h1 a ha
    · have := h1 a ha; have := h2 b hb; omega⟩
  have h3 := okF_of (last := -1) (xs := A ++ z :: B) (fun x hx => by have := hall x hx; omega) hs
  simp only [rvB, h3, Bool.true_and, Bool.and_eq_true, decide_eq_true_eq]
  omega
/-- What the law asks of what is noted. -/
theorem note_law {part T n P L lv : Int} {ys zs : List G3} (h : NoteA part T n ys zs lv) (hs : ys.Pairwise fun x y => x.p < y.p) (hlen : ys.length ≤ 5) (hP : 1 ≤ P ∧ P ≤ 12) (hL : 1 ≤ L ∧ L ≤ 5) (hpart : 0 ≤ part ∧ part < 12) (hn : 1 ≤ n ∧ n ≤ 5) (hT : 0 ≤ T ∧ T ≤ 79) (hall : ∀ y ∈ ys, 0 < y.p ∧ y.p ≤ 15 ∧ 1 ≤ y.l ∧ y.l ≤ 6 ∧ 0 ≤ y.t ∧ y.t ≤ 1099511627776) :
    lastL part 0 zs = lastL part 0 ys + n ∧ lv = lastL part 0 zs ∧ zs.length ≤ ys.length + 1 ∧ (∀ y ∈ ys, y.p ≠ part → y ∈ zs) ∧ rvB P L zs = true := by
  cases h with
  | found i hi hp _ =>
    obtain ⟨h1, h2⟩ := sorted_ne hs hi
    have hy := hall ys[i]! (by rw [getElem!_pos ys i hi]; exact List.getElem_mem _)
    have e1 : ys = ys.take i ++ ys[i]! :: ys.drop (i + 1) := by
      rw [getElem!_pos ys i hi]
      simp
    have e2 : ys.set i ⟨part, min (ys[i]!.l + n) 1048576, ys[i]!.t⟩ = ys.take i ++ (⟨part, min (ys[i]!.l + n) 1048576, ys[i]!.t⟩ : G3) :: ys.drop (i + 1) := by
      rw [List.set_eq_take_append_cons_drop, if_pos hi]
    have hl0 : lastL part 0 ys = ys[i]!.l := by
      conv => lhs; rw [e1]
      exact lastL_mid hp fun x hx => by have := h2 x hx; omega
    have hm : min (ys[i]!.l + n) 1048576 = ys[i]!.l + n := by omega
    rw [hl0, e2, hm]
    have hl1 : lastL part 0 (ys.take i ++ (⟨part, ys[i]!.l + n, ys[i]!.t⟩ : G3) :: ys.drop (i + 1)) = ys[i]!.l + n := lastL_mid rfl fun x hx => by have := h2 x hx; omega
    refine ⟨hl1, hl1.symm, by rw [List.length_append, List.length_cons, List.length_take, List.length_drop]; omega, fun y hy hne => ?_, ?_⟩
    · rw [e1] at hy
      rcases List.mem_append.1 hy with hy | hy
      · exact List.mem_append_left _ hy
      · rcases List.mem_cons.1 hy with rfl | hy
        · exact absurd hp hne
        · exact List.mem_append_right _ (List.mem_cons_of_mem _ hy)
    · refine rv_of hP hL (by rw [List.length_append, List.length_cons, List.length_take, List.length_drop]; omega) (hs.sublist (List.take_sublist _ _)) (hs.sublist (List.drop_sublist _ _)) (fun a ha => by have := h1 a ha; show a.p < part; omega) (fun b hb => by have := h2 b hb; show part < b.p; omega) fun x hx => ?_
      rcases List.mem_append.1 hx with hx | hx
      · have := hall x (List.mem_of_mem_take hx); omega
      · rcases List.mem_cons.1 hx with rfl | hx
        · dsimp only; omega
        · have := hall x (List.mem_of_mem_drop hx); omega
  | fresh i hi h1 h2 hl =>
    have g1 : ∀ x ∈ ys.take i, x.p < part := fun x hx => by
      obtain ⟨k, hk, rfl⟩ := List.getElem_of_mem hx
      rw [List.length_take] at hk
      have := h1 k (by omega)
      rw [getElem!_pos ys k (by omega)] at this
      rwa [List.getElem_take]
    have g2 : ∀ x ∈ ys.drop i, part < x.p := fun x hx => by
      obtain ⟨k, hk, rfl⟩ := List.getElem_of_mem hx
      rw [List.length_drop] at hk
      have := h2 (i + k) (by omega) (by omega)
      rw [getElem!_pos ys (i + k) (by omega)] at this
      rwa [List.getElem_drop]
    have hl0 : lastL part 0 ys = 0 := lastL_none fun x hx => by
      rw [← List.take_append_drop i ys] at hx
      rcases List.mem_append.1 hx with hx | hx
      · have := g1 x hx; omega
      · have := g2 x hx; omega
    have hl1 : lastL part 0 (ys.take i ++ (⟨part, n, T⟩ : G3) :: ys.drop i) = n := lastL_mid rfl fun x hx => by have := g2 x hx; omega
    refine ⟨by rw [hl0, hl1]; omega, hl1.symm, by rw [List.length_append, List.length_cons, List.length_take, List.length_drop]; omega, fun y hy hne => ?_, ?_⟩
    · rw [← List.take_append_drop i ys] at hy
      rcases List.mem_append.1 hy with hy | hy
      · exact List.mem_append_left _ hy
      · exact List.mem_append_right _ (List.mem_cons_of_mem _ hy)
    · refine rv_of hP hL (by rw [List.length_append, List.length_cons, List.length_take, List.length_drop]; omega) (hs.sublist (List.take_sublist _ _)) (hs.sublist (List.drop_sublist _ _)) g1 g2 fun x hx => ?_
      rcases List.mem_append.1 hx with hx | hx
      · have := hall x (List.mem_of_mem_take hx); omega
      · rcases List.mem_cons.1 hx with rfl | hx
        · dsimp only; omega
        · have := hall x (List.mem_of_mem_drop hx); omega
theorem lastL_in {part l0 : Int} : ∀ {xs : List G3}, (∀ x ∈ xs, 1 ≤ x.l ∧ x.l ≤ 6) → 0 ≤ l0 ∧ l0 ≤ 6 → 0 ≤ lastL part l0 xs ∧ lastL part l0 xs ≤ 6
  | [], _, h => h
  | x :: xs, h, h0 => by
    show 0 ≤ lastL part _ xs ∧ lastL part _ xs ≤ 6
    refine lastL_in (fun y hy => h y (by simp [hy])) ?_
    have := h x (by simp)
    split <;> omega
theorem leak_le {P T : Int} (hP : 1 ≤ P) {xs : List G3} {y : G3} (hy : y ∈ leakL P T xs) : ∃ x ∈ xs, y.p = x.p ∧ y.l ≤ x.l := by
  obtain ⟨x, hx, hxy⟩ := List.mem_filterMap.1 hy
  unfold leakG at hxy
  have h0 : 0 ≤ leakN P T x := by
    by_cases h : x.t ≤ T
    · exact (leakN_in hP h).1
    · unfold leakN; rw [if_neg h]; exact Int.le_refl _
  split at hxy
  · simp at hxy
    refine ⟨x, hx, by rw [← hxy], ?_⟩
    rw [← hxy]; dsimp only; omega
  · cases hxy
theorem eqlG (a b c a' b' c' : Int) (w : World) : (binOp .eql 66 (.agg #[.int .i64 a, .int .i64 b, .int .i64 c]) (.agg #[.int .i64 a', .int .i64 b', .int .i64 c'])).run Try.prog w = .ok (.bool (decide (a = a' ∧ b = b' ∧ c = c'))) w := by
  by_cases h0 : a = a'
  · by_cases h1 : b = b'
    · by_cases h2 : c = c'
      · subst h0 h1 h2; go_simp
      · go_simp
    · go_simp
  · go_simp
theorem any_takeG {p : G3 → Bool} {xs : List G3} {j : Nat} (hj : j < xs.length) : (xs.take (j + 1)).any p = ((xs.take j).any p || p xs[j]!) := by
  rw [List.take_add_one, List.getElem?_eq_getElem hj, List.any_append, getElem!_pos xs j hj]
  simp
set_option maxHeartbeats 8000000 in
theorem rapart_walk (sa : Option Addr) (len cap : Nat) (hl : len ≤ maxLen) (part time n : Int) (w : World) (hI : Ints w sa len) :
    Calls Try.prog 12 #[.slice sa len cap, .int .i64 part, .int .i64 time, .int .i64 n] w (Gives (.bool true) w) := by
  have HI := Lib.hid hI
  clear hI
  have hli := light_any sa len cap hl
  clear hl
  by_cases h400 : len ≤ 400
  · rw [decide_eq_true h400] at hli
    have HLI := Lib.hid hli
    clear hli
    have m1 := modF_in (n := part) (m := 12) (by decide) (by decide)
    have m2 := modF_in (n := n) (m := 5) (by decide) (by decide)
    have m3 := modF_in (n := time) (m := 40) (by decide) (by decide)
    have M1 := Lib.hid (fun w => gives_of (mod_any part 12 w))
    have M2 := Lib.hid (fun w => gives_of (mod_any n 5 w))
    have M3 := Lib.hid (fun w => gives_of (mod_any time 40 w))
    generalize modF part 12 = pt at *
    generalize modF n 5 = u5 at *
    generalize modF time 40 = u40 at *
    go_enter Try.func12, Try.ntmps12
    have H := HS.start NoD w
    go_wp2_with fail
    refine (gives_of (HLI.out _)).mono ?_
    rintro _ w1 ⟨rfl, hb⟩
    replace H := H.below hb
    clear hb
    try clear C
    try simp only [World.size_alloc, List.nil_append, List.cons_append, List.append_assoc] at H
    have C := H.cells
    try simp only [cellsOf, apartOf, and_true] at C
    dsimp only
    go_wp2_with fail
    refine (roll_at w.heap.size _ _ _ h400 _ H.size (H.ints HI.out)).mono ?_
    rintro _ w2 ⟨bd, rfl, hd, hb, hbb⟩
    replace H := H.getsDice hb hd hbb (Nat.le_refl _)
    clear hb hd hbb
    try clear C
    try simp only [World.size_alloc, List.nil_append, List.cons_append, List.append_assoc] at H
    try clear w1
    have C := H.cells
    try simp only [cellsOf, apartOf, and_true] at C
    dsimp only
    go_wp2_with fail
    refine (gauges_any w.heap.size bd _ (H.at 0 rfl) H.size).mono ?_
    rintro _ wg ⟨P, L, xs, s0, c0, rfl, hr, hG, hd, hg⟩
    replace H := H.diceRow 0 rfl hg hd hr
    clear hr hd hg
    try simp only [List.nil_append, List.cons_append, List.append_assoc] at H
    skip
    try clear C
    try simp only [World.size_alloc, List.nil_append, List.cons_append, List.append_assoc] at H
    have C := H.cells
    try simp only [cellsOf, apartOf, and_true] at C
    obtain ⟨T, hT⟩ : ∃ T, T = 40 + u40 := ⟨_, rfl⟩
    obtain ⟨nn, hnn⟩ : ∃ nn, nn = 1 + u5 := ⟨_, rfl⟩
    have qT : wrap64 (40 + u40) = T := by rw [hT]; exact IntWalk.wrap64_in _ (by omega)
    have qn : wrap64 (1 + u5) = nn := by rw [hnn]; exact IntWalk.wrap64_in _ (by omega)
    have hTb : 40 ≤ T ∧ T ≤ 79 := by omega
    have hnb : 1 ≤ nn ∧ nn ≤ 5 := by omega
    have qT2 : 40 + u40 = T := hT.symm
    have qn2 : 1 + u5 = nn := hnn.symm
    clear hT hnn
    have hgok := hG.ok (T := T) (by omega)
    have hsy := sorted_leak (P := P) (T := T) hG.sorted
    have hly : (leakL P T xs).length ≤ 5 := Nat.le_trans (leakL_len _ _ _) hG.len
    have hay : ∀ y ∈ leakL P T xs, 0 < y.p ∧ y.p ≤ 15 ∧ 1 ≤ y.l ∧ y.l ≤ 6 ∧ 0 ≤ y.t ∧ y.t ≤ 1099511627776 := fun y hy => by
      have h1 := leak_in hgok hy
      obtain ⟨x, hx, h2, h3⟩ := leak_le hG.P1.1 hy
      have h4 := hG.all x hx
      omega
    have HNT := Lib.hid (fun w (hl : Lies w w.heap.size s0 3 xs.length (fun j => gC xs[j]!)) => note_all (part := pt) (T := T) (n := nn) (L := L) c0 hG.valid m1.1 (by omega) (by omega) (fun x hx => by have := hG.all x hx; omega) (by omega) w hl)
    have HLK := Lib.hid (fun w hl => leak_ok L (sa := s0) c0 hgok w hl)
    have hP := hG.P1
    have hLb := hG.L1
    have hxl := hG.len
    clear hgok hG m2 m3
    go_wp2_with fail
    refine (M1.out _).mono ?_
    rintro _ w3 ⟨rfl, hb⟩
    replace H := H.alloc.below hb
    clear hb
    try clear C
    try simp only [World.size_alloc, List.nil_append, List.cons_append, List.append_assoc] at H
    generalize wg.heap.size = bG at H ⊢
    try clear wg
    have C := H.cells
    try simp only [cellsOf, apartOf, and_true] at C
    dsimp only
    go_wp2_with fail
    refine (M2.out _).mono ?_
    rintro _ w4 ⟨rfl, hb⟩
    replace H := H.below hb
    clear hb
    try clear C
    try simp only [World.size_alloc, List.nil_append, List.cons_append, List.append_assoc] at H
    try clear w3
    have C := H.cells
    try simp only [cellsOf, apartOf, and_true] at C
    dsimp only
    go_wp2_with fail
    refine (M3.out _).mono ?_
    rintro _ w5 ⟨rfl, hb⟩
    replace H := H.below hb
    clear hb
    try clear C
    try simp only [World.size_alloc, List.nil_append, List.cons_append, List.append_assoc] at H
    try clear w4
    have C := H.cells
    try simp only [cellsOf, apartOf, and_true] at C
    dsimp only
    go_wp2_with fail
    refine (HNT.out _ (H.rowLies 1 gC_len rfl rfl)).mono ?_
    rintro _ wn ⟨zs, lv, hNA, s1, c1, rfl, hr, hb⟩
    replace H := H.getsRow hb hr
    clear hr hb
    try simp only [List.nil_append, List.cons_append, List.append_assoc] at H
    skip
    try clear C
    try simp only [World.size_alloc, List.nil_append, List.cons_append, List.append_assoc] at H
    have C := H.cells
    try simp only [cellsOf, apartOf, and_true] at C
    obtain ⟨e1, e2, e3, e4, e5⟩ := note_law hNA hsy hly hP hLb m1 hnb (by omega) hay
    have hzl : zs.length ≤ 6 := by omega
    have hlb := lastL_in (part := pt) (l0 := 0) (xs := leakL P T xs) (fun y hy => by have := hay y hy; omega) (by omega)
    have HV := Lib.hid (fun w (sa : Option Addr) (c : Nat) hl => by have := rvalid_any P L (sa := sa) c (xs := zs) (by omega) w hl; rw [e5] at this; exact this : ∀ w (sa : Option Addr) (c : Nat), Lies w w.heap.size sa 3 zs.length (fun j => gC zs[j]!) → Calls Try.prog 44 #[vG P L (.slice sa zs.length c)] w (Gives (.bool true) w))
    clear hNA hsy hay e5
    generalize leakL P T xs = ys at *
    subst e2
    have HE1 := Lib.hid e1
    have HE4 := Lib.hid e4
    clear e1 e4
    go_wp2_with fail
    refine (HLK.out _ (H.alloc.rowLies 1 gC_len rfl rfl)).mono ?_
    rintro _ w6 ⟨s2, c2, rfl, hr, hb⟩
    replace H := (H.alloc).getsRow hb hr
    clear hb hr
    try clear C
    try simp only [World.size_alloc, List.nil_append, List.cons_append, List.append_assoc] at H
    generalize wn.heap.size = bX at H ⊢
    try clear wn
    have C := H.cells
    try simp only [cellsOf, apartOf, and_true] at C
    dsimp only
    go_upto_region 11 with fail
    generalize hwb : w6.alloc _ = w7
    replace H := HS.eqW hwb H.alloc
    try simp only [World.size_alloc, List.nil_append, List.cons_append, List.append_assoc] at H
    clear hwb
    generalize w6.heap.size = bY at H ⊢
    try clear C
    try clear w6
    have C := H.cells
    try simp only [cellsOf, apartOf, and_true] at C
    go_wp2_with fail
    go_loopw [15, 56] (fun u cc wr => ∃ (j : Nat), cc = .int .i64 j ∧ j ≤ ys.length ∧ u = .int .i64 (lastL pt 0 (ys.take j)) ∧ HS NoD w [.dice w.heap.size bd, .row (.slice s0 xs.length c0) 66 3 xs.length (xs.flatMap gC), .blk bG #[.int .i64 P, .int .i64 L, .slice s0 xs.length c0] 63, .row (.slice s1 zs.length c1) 66 3 zs.length (zs.flatMap gC), .blk bX #[.int .i64 P, .int .i64 L, .slice s1 zs.length c1] 63, .row (.slice s2 ys.length c2) 66 3 ys.length (ys.flatMap gC), .blk bY #[.int .i64 P, .int .i64 L, .slice s2 ys.length c2] 63] wr) (fun _ cc _ => ys.length - (intOf cc).toNat)
    case atStart => exact ⟨0, rfl, Nat.zero_le _, rfl, H⟩
    case round =>
      clear H C w7
      obtain ⟨j, rfl, hj, rfl, H⟩ := hrel
      skip
      try clear C
      try simp only [World.size_alloc, List.nil_append, List.cons_append, List.append_assoc] at H
      have C := H.cells
      try simp only [cellsOf, apartOf, and_true] at C
      by_cases hlt : j < ys.length
      · obtain ⟨b, o, rfl, hb, hc⟩ := (H.rowLies 5 gC_len rfl rfl).at hlt
        have HTAKE := Lib.hid (lastL_take (part := pt) (l0 := 0) hlt)
        have hmem : ys[j]! ∈ ys := by rw [getElem!_pos ys j hlt]; exact List.getElem_mem _
        have HIN := Lib.hid (HE4.out _ hmem)
        obtain ⟨z, hz⟩ : ∃ z, z = ys[j]! := ⟨_, rfl⟩
        rw [← hz] at hc HTAKE HIN
        clear hz hmem
        obtain ⟨zp, zl, zt⟩ := z
        have k0 : wr.cell? ⟨b, o + j * 3, none⟩ = some (.int .i64 zp) := hc 0 _ rfl
        have k1 : wr.cell? ⟨b, o + j * 3 + 1, none⟩ = some (.int .i64 zl) := hc 1 _ rfl
        have k2 : wr.cell? ⟨b, o + j * 3 + 2, none⟩ = some (.int .i64 zt) := hc 2 _ rfl
        clear hc
        generalize lastL pt 0 (ys.take j) = bf at *
        go_upto_region 14 with fail
        generalize hwb : wr.alloc _ = w8
        replace H := HS.eqW hwb H.alloc
        try simp only [World.size_alloc, List.nil_append, List.cons_append, List.append_assoc] at H
        clear hwb
        generalize wr.heap.size = bz at H ⊢
        try clear C
        try clear wr
        have C := H.cells
        try simp only [cellsOf, apartOf, and_true] at C
        clear k0 k1 k2
        skip
        by_cases hp : zp = pt
        · have hpb : (zp == pt) = true := beq_iff_eq.2 hp
          have HT2 := Lib.hid (HTAKE.out.trans (if_pos hp))
          clear hp
          go_wp2_with fail
          go_roundw
          case rel => exact ⟨j + 1, by go_num, by omega, by rw [HT2.out], H.less (by repeat (first | exact .slnil | refine .cons_cons _ ?_ | refine .cons _ ?_))⟩
          case measure => simp [intOf]; omega
        · have hpb : (zp == pt) = false := beq_eq_false_iff_ne.2 hp
          have HT2 := Lib.hid (HTAKE.out.trans (if_neg hp))
          have HMZ := Lib.hid (HIN.out hp)
          clear hp
          skip
          go_wp2_with fail
          clear hpb
          go_loopw [19, 69] (fun f cc wr => ∃ (k : Nat), cc = .int .i64 k ∧ k ≤ zs.length ∧ f = .bool ((zs.take k).any (fun u => decide (u.p = zp ∧ u.l = zl ∧ u.t = zt))) ∧ HS NoD w [.dice w.heap.size bd, .row (.slice s0 xs.length c0) 66 3 xs.length (xs.flatMap gC), .blk bG #[.int .i64 P, .int .i64 L, .slice s0 xs.length c0] 63, .row (.slice s1 zs.length c1) 66 3 zs.length (zs.flatMap gC), .blk bX #[.int .i64 P, .int .i64 L, .slice s1 zs.length c1] 63, .row (.slice (some ⟨b, o, none⟩) ys.length c2) 66 3 ys.length (ys.flatMap gC), .blk bY #[.int .i64 P, .int .i64 L, .slice (some ⟨b, o, none⟩) ys.length c2] 63, .blk bz #[.int .i64 zp, .int .i64 zl, .int .i64 zt] 66] wr) (fun _ cc _ => zs.length - (intOf cc).toNat)
          case atStart => exact ⟨0, rfl, Nat.zero_le _, rfl, H⟩
          case round =>
            clear H C w8
            obtain ⟨k, rfl, hk, rfl, H⟩ := hrel
            skip
            try clear C
            try simp only [World.size_alloc, List.nil_append, List.cons_append, List.append_assoc] at H
            have C := H.cells
            try simp only [cellsOf, apartOf, and_true] at C
            by_cases hlt2 : k < zs.length
            · obtain ⟨b2, o2, rfl, hb2, hc⟩ := (H.rowLies 3 gC_len rfl rfl).at hlt2
              have HANY := Lib.hid (any_takeG (p := fun u => decide (u.p = zp ∧ u.l = zl ∧ u.t = zt)) hlt2)
              obtain ⟨x, hx⟩ : ∃ x, x = zs[k]! := ⟨_, rfl⟩
              rw [← hx] at hc HANY
              clear hx
              obtain ⟨xp, xl, xt⟩ := x
              have k0 : wr.cell? ⟨b2, o2 + k * 3, none⟩ = some (.int .i64 xp) := hc 0 _ rfl
              have k1 : wr.cell? ⟨b2, o2 + k * 3 + 1, none⟩ = some (.int .i64 xl) := hc 1 _ rfl
              have k2 : wr.cell? ⟨b2, o2 + k * 3 + 2, none⟩ = some (.int .i64 xt) := hc 2 _ rfl
              clear hc
              generalize (zs.take k).any (fun u => decide (u.p = zp ∧ u.l = zl ∧ u.t = zt)) = f0 at *
              go_upto_region 20 with fail
              generalize hwb : wr.alloc _ = w9
              replace H := HS.eqW hwb H.alloc
              try simp only [World.size_alloc, List.nil_append, List.cons_append, List.append_assoc] at H
              clear hwb
              generalize wr.heap.size = bu at H ⊢
              try clear C
              try clear wr
              have C := H.cells
              try simp only [cellsOf, apartOf, and_true] at C
              clear k0 k1 k2
              skip
              cases f0 with
              | true =>
                go_wp2_with fail
                go_roundw
                case rel => exact ⟨k + 1, by go_num, by omega, by rw [HANY.out, Bool.true_or], H.less (by repeat (first | exact .slnil | refine .cons_cons _ ?_ | refine .cons _ ?_))⟩
                case measure => simp [intOf]; omega
              | false =>
                by_cases hu : xp = zp ∧ xl = zl ∧ xt = zt
                · have hq : ∀ w, (binOp .eql 66 (.agg #[.int .i64 xp, .int .i64 xl, .int .i64 xt]) (.agg #[.int .i64 zp, .int .i64 zl, .int .i64 zt])).run Try.prog w = .ok (.bool true) w := fun w => by rw [eqlG, decide_eq_true hu]
                  have HH := Lib.hid (decide_eq_true hu)
                  clear hu
                  skip
                  go_wp2_with fail
                  clear hq
                  go_roundw
                  case rel => exact ⟨k + 1, by go_num, by omega, by rw [HANY.out, Bool.false_or, HH.out], H.less (by repeat (first | exact .slnil | refine .cons_cons _ ?_ | refine .cons _ ?_))⟩
                  case measure => simp [intOf]; omega
                · have hq : ∀ w, (binOp .eql 66 (.agg #[.int .i64 xp, .int .i64 xl, .int .i64 xt]) (.agg #[.int .i64 zp, .int .i64 zl, .int .i64 zt])).run Try.prog w = .ok (.bool false) w := fun w => by rw [eqlG, decide_eq_false hu]
                  have HH := Lib.hid (decide_eq_false hu)
                  clear hu
                  skip
                  go_wp2_with fail
                  clear hq
                  go_roundw
                  case rel => exact ⟨k + 1, by go_num, by omega, by rw [HANY.out, Bool.false_or, HH.out], H.less (by repeat (first | exact .slnil | refine .cons_cons _ ?_ | refine .cons _ ?_))⟩
                  case measure => simp [intOf]; omega
            · have hke : k = zs.length := by omega
              subst hke
              have hany : (zs.take zs.length).any (fun u => decide (u.p = zp ∧ u.l = zl ∧ u.t = zt)) = true := by
                rw [List.take_length, List.any_eq_true]
                exact ⟨_, HMZ.out, decide_eq_true ⟨rfl, rfl, rfl⟩⟩
              rw [hany]
              clear hany
              skip
              go_wp2_with fail
              go_roundw
              case rel => exact ⟨j + 1, by go_num, by omega, by rw [HT2.out], H.less (by repeat (first | exact .slnil | refine .cons_cons _ ?_ | refine .cons _ ?_))⟩
              case measure => simp [intOf]; omega
      · have hje : j = ys.length := by omega
        subst hje
        rw [List.take_length]
        generalize lastL pt 0 ys = bf at *
        skip
        go_wp2_with fail
        go_loopw [16, 86] (fun u cc wr => ∃ (j : Nat), cc = .int .i64 j ∧ j ≤ zs.length ∧ u = .int .i64 (lastL pt 0 (zs.take j)) ∧ HS NoD w [.dice w.heap.size bd, .row (.slice s0 xs.length c0) 66 3 xs.length (xs.flatMap gC), .blk bG #[.int .i64 P, .int .i64 L, .slice s0 xs.length c0] 63, .row (.slice s1 zs.length c1) 66 3 zs.length (zs.flatMap gC), .blk bX #[.int .i64 P, .int .i64 L, .slice s1 zs.length c1] 63, .row (.slice s2 ys.length c2) 66 3 ys.length (ys.flatMap gC), .blk bY #[.int .i64 P, .int .i64 L, .slice s2 ys.length c2] 63] wr) (fun _ cc _ => zs.length - (intOf cc).toNat)
        case atStart => exact ⟨0, rfl, Nat.zero_le _, rfl, H⟩
        case round =>
          clear H C
          obtain ⟨j, rfl, hj2, rfl, H⟩ := hrel
          skip
          try clear C
          try simp only [World.size_alloc, List.nil_append, List.cons_append, List.append_assoc] at H
          have C := H.cells
          try simp only [cellsOf, apartOf, and_true] at C
          by_cases hlt : j < zs.length
          · obtain ⟨b, o, rfl, hb, hc⟩ := (H.rowLies 3 gC_len rfl rfl).at hlt
            have HTAKE := Lib.hid (lastL_take (part := pt) (l0 := 0) hlt)
            obtain ⟨z, hz⟩ : ∃ z, z = zs[j]! := ⟨_, rfl⟩
            rw [← hz] at hc HTAKE
            clear hz
            obtain ⟨zp, zl, zt⟩ := z
            have k0 : wr.cell? ⟨b, o + j * 3, none⟩ = some (.int .i64 zp) := hc 0 _ rfl
            have k1 : wr.cell? ⟨b, o + j * 3 + 1, none⟩ = some (.int .i64 zl) := hc 1 _ rfl
            have k2 : wr.cell? ⟨b, o + j * 3 + 2, none⟩ = some (.int .i64 zt) := hc 2 _ rfl
            clear hc
            generalize lastL pt 0 (zs.take j) = lf at *
            go_upto_region 28 with fail
            generalize hwb : wr.alloc _ = w10
            replace H := HS.eqW hwb H.alloc
            try simp only [World.size_alloc, List.nil_append, List.cons_append, List.append_assoc] at H
            clear hwb
            generalize wr.heap.size = bz at H ⊢
            try clear C
            try clear wr
            have C := H.cells
            try simp only [cellsOf, apartOf, and_true] at C
            clear k0 k1 k2
            skip
            by_cases hp : zp = pt
            · have hpb : (zp == pt) = true := beq_iff_eq.2 hp
              have HT2 := Lib.hid (HTAKE.out.trans (if_pos hp))
              clear hp
              go_wp2_with fail
              go_roundw
              case rel => exact ⟨j + 1, by go_num, by omega, by rw [HT2.out], H.less (by repeat (first | exact .slnil | refine .cons_cons _ ?_ | refine .cons _ ?_))⟩
              case measure => simp [intOf]; omega
            · have hpb : (zp == pt) = false := beq_eq_false_iff_ne.2 hp
              have HT2 := Lib.hid (HTAKE.out.trans (if_neg hp))
              clear hp
              skip
              go_wp2_with fail
              go_roundw
              case rel => exact ⟨j + 1, by go_num, by omega, by rw [HT2.out], H.less (by repeat (first | exact .slnil | refine .cons_cons _ ?_ | refine .cons _ ?_))⟩
              case measure => simp [intOf]; omega
          · have hje : j = zs.length := by omega
            subst hje
            rw [List.take_length]
            generalize lastL pt 0 zs = lv2 at *
            have hb1 : (lv2 == bf + nn) = true := beq_iff_eq.2 HE1.out
            skip
            go_wp2_with fail
            refine (HV.out _ _ _ (H.rowLies 3 gC_len rfl rfl)).mono ?_
            rintro _ w11 ⟨rfl, hb⟩
            replace H := H.below hb
            clear hb
            try clear C
            try simp only [World.size_alloc, List.nil_append, List.cons_append, List.append_assoc] at H
            try clear wr
            have C := H.cells
            try simp only [cellsOf, apartOf, and_true] at C
            dsimp only
            go_wp2_with fail
            refine (awake26 _).mono ?_
            rintro _ w12 ⟨rfl, hb⟩
            replace H := H.below hb
            clear hb
            try clear C
            try simp only [World.size_alloc, List.nil_append, List.cons_append, List.append_assoc] at H
            try clear w11
            have C := H.cells
            try simp only [cellsOf, apartOf, and_true] at C
            dsimp only
            go_wp2_with fail
            go_ret
            exact ⟨rfl, H.done⟩
  · rw [decide_eq_false h400] at hli
    have HLI := Lib.hid hli
    clear hli
    go_enter Try.func12, Try.ntmps12
    have H := HS.start NoD w
    go_wp2_with fail
    refine (gives_of (HLI.out _)).mono ?_
    rintro _ w1 ⟨rfl, hb⟩
    replace H := H.below hb
    clear hb
    try clear C
    try simp only [World.size_alloc, List.nil_append, List.cons_append, List.append_assoc] at H
    have C := H.cells
    try simp only [cellsOf, apartOf, and_true] at C
    dsimp only
    go_wp2_with fail
    refine (awake26 _).mono ?_
    rintro _ w2 ⟨rfl, hb⟩
    replace H := H.below hb
    clear hb
    try clear C
    try simp only [World.size_alloc, List.nil_append, List.cons_append, List.append_assoc] at H
    try clear w1
    have C := H.cells
    try simp only [cellsOf, apartOf, and_true] at C
    dsimp only
    go_wp2_with fail
    go_ret
    exact ⟨rfl, H.done⟩
end Go.Proofs.Ytcacgmfihhpliaa
