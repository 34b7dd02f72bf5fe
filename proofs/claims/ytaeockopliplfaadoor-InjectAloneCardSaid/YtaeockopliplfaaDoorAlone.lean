/- The statement InjectAlone: its walk. -/
import Derived.Test.YtaeockopliplfaaDoorInj6
import Derived.Test.YtaeockopliplfaaDoorMillF
namespace Go.Proofs.YtaeockopliplfaaDoor
set_option linter.unusedSimpArgs false
set_option linter.unusedVariables false
open Go.RowKit
set_option maxRecDepth 100000
attribute [local go_sem] lt_more ne_more ne_more'
attribute [local irreducible] wpX wpF wpG Calls

theorem row_ptr {w : World} {B k n c : Nat} {e : TypeId} {sa : Option Addr} {cs : List Value} (h : w.ownsRow B e k (.slice sa n c) n cs) (hn : 0 < n) : ∃ g, sa = some ⟨g, 0, none⟩ ∧ g < w.heap.size ∧ n ≤ c := by
  rcases h.2 with ⟨h2, h3⟩ | ⟨g, cap, cur, hv, hg, hh, r⟩
  · omega
  · injection hv with e1 e2 e3
    subst e3
    exact ⟨g, e1, lt_of_heap hh, r.1⟩
theorem range_one (n k : Nat) : (List.range n).filter (fun c => decide (c = k)) = if k < n then [k] else [] := by
  induction n with
  | zero => simp
  | succ n ih =>
    rw [List.range_succ, List.filter_append, ih]
    by_cases h : k = n
    · subst h; simp
    · have h' : ¬ n = k := fun e => h e.symm
      by_cases h2 : k < n
      · rw [if_pos h2, if_pos (by omega)]; simp [h']
      · rw [if_neg h2, if_neg (by omega)]; simp [h']
/-- Strikes of one chip alone. -/
theorem chL_one {xs : List St} {q : P6} {t ch : Int} (hne : xs ≠ []) (hall : ∀ x ∈ xs, hitP x q t = true ∧ x.ch = ch) (hc : 0 ≤ ch ∧ ch < 40) : chL (mkI xs q t) 40 = [ch.toNat] := by
  have : chL (mkI xs q t) 40 = (List.range 40).filter (fun c => decide (c = ch.toNat)) := by
    unfold chL
    congr 1
    funext c
    rw [Bool.eq_iff_iff, mkI_some, decide_eq_true_eq]
    constructor
    · rintro ⟨x, hx, _, h⟩
      have := (hall x hx).2
      omega
    · intro h
      obtain ⟨x, hx⟩ := List.exists_mem_of_ne_nil xs hne
      exact ⟨x, hx, (hall x hx).1, by rw [(hall x hx).2]; omega⟩
  rw [this, range_one, if_pos (by omega)]
theorem chL_none {xs : List St} {q : P6} {t : Int} (hall : ∀ x ∈ xs, hitP x q t = false) : chL (mkI xs q t) 40 = [] := by
  unfold chL
  rw [List.filter_eq_nil_iff]
  intro c _ h
  rw [mkI_some] at h
  obtain ⟨x, hx, h1, _⟩ := h
  rw [hall x hx] at h1; cases h1
theorem at_of_idx {a0 a1 a2 a3 a4 a5 p0 p1 p2 p3 p4 p5 : Int} (h : SV a0 a1 a2 a3 a4 a5) (hp : PV a0 a1 a2 a3 a4 a5 p0 p1 p2 p3 p4 p5) : atF a0 a1 a2 a3 a4 a5 (idx a1 a2 a3 a4 a5 p0 p1 p2 p3 p4 p5) = ⟨p0, p1, p2, p3, p4, p5⟩ := by
  have hin := idx_in h hp
  obtain ⟨_, _, _, _, _, _, _, _, _, _, _, _, hh⟩ := atF_steps h hin.1 hin.2
  obtain ⟨e0, e1, e2, e3, e4, e5⟩ := idx_inj hh.place hp hh.index
  have key : ∀ q : P6, q.a = p0 → q.b = p1 → q.c = p2 → q.d = p3 → q.e = p4 → q.f = p5 → q = ⟨p0, p1, p2, p3, p4, p5⟩ := by
    rintro ⟨_, _, _, _, _, _⟩ rfl rfl rfl rfl rfl rfl; rfl
  exact key _ e0 e1 e2 e3 e4 e5
/-- A fault twice: the worst word has one chip. -/
theorem worst_one {a0 a1 a2 a3 a4 a5 k p0 p1 p2 p3 p4 p5 ch ms vl : Int} {hh : Bool} {chips : Int} (h : SV a0 a1 a2 a3 a4 a5) (hF : MF a0 a1 a2 a3 a4 a5 chips k p0 p1 p2 p3 p4 p5 ch ms) (hc : chips ≤ 40) :
    (wst (nOf a0 a1 a2 a3 a4 a5 [⟨5, k, p0, p1, p2, p3, p4, p5, ch, ms, vl, hh⟩, ⟨5, k, p0, p1, p2, p3, p4, p5, ch, ms, vl, hh⟩] 1099511627776) (2 ^ (a0 + a1 + a2 + a3 + a4 + a5).toNat)).2 = 1 := by
  have hch : 0 ≤ ch ∧ ch < 40 := ⟨hF.ch.1, by have := hF.ch.2; omega⟩
  have h1 : ∀ i, nOf a0 a1 a2 a3 a4 a5 [⟨5, k, p0, p1, p2, p3, p4, p5, ch, ms, vl, hh⟩, ⟨5, k, p0, p1, p2, p3, p4, p5, ch, ms, vl, hh⟩] 1099511627776 i ≤ 1 := fun i => by
    unfold nOf
    cases hb : hitP ⟨5, k, p0, p1, p2, p3, p4, p5, ch, ms, vl, hh⟩ (atF a0 a1 a2 a3 a4 a5 i) 1099511627776
    · rw [chL_none (by intro x hx; simp at hx; subst hx; exact hb)]; decide
    · rw [chL_one (ch := ch) (by simp) (by intro x hx; simp at hx; subst hx; exact ⟨hb, rfl⟩) hch]; exact Nat.le_refl _
  have hin := idx_in h hF.pv
  obtain ⟨i, hi⟩ : ∃ i : Nat, idx a1 a2 a3 a4 a5 p0 p1 p2 p3 p4 p5 = i := ⟨(idx a1 a2 a3 a4 a5 p0 p1 p2 p3 p4 p5).toNat, by omega⟩
  have hat := at_of_idx h hF.pv
  rw [hi] at hat hin
  have h2 : nOf a0 a1 a2 a3 a4 a5 [⟨5, k, p0, p1, p2, p3, p4, p5, ch, ms, vl, hh⟩, ⟨5, k, p0, p1, p2, p3, p4, p5, ch, ms, vl, hh⟩] 1099511627776 i = 1 := by
    unfold nOf
    rw [hat, chL_one (ch := ch) (by simp) (by
      intro x hx; simp at hx; subst hx
      refine ⟨?_, rfl⟩
      unfold hitP cvP
      have hk := hF.k
      have hcv : CV k p0 p1 p2 p3 p4 p5 p0 p1 p2 p3 p4 p5 := by constructor <;> simp
      simp [hk.1, hk.2, hcv]) hch]
    rfl
  have hlt : i < 2 ^ (a0 + a1 + a2 + a3 + a4 + a5).toNat := by have := hin.2; exact_mod_cast this
  have h3 := wst_most (nOf a0 a1 a2 a3 a4 a5 [⟨5, k, p0, p1, p2, p3, p4, p5, ch, ms, vl, hh⟩, ⟨5, k, p0, p1, p2, p3, p4, p5, ch, ms, vl, hh⟩] 1099511627776) _ i hlt
  rcases wst_is (nOf a0 a1 a2 a3 a4 a5 [⟨5, k, p0, p1, p2, p3, p4, p5, ch, ms, vl, hh⟩, ⟨5, k, p0, p1, p2, p3, p4, p5, ch, ms, vl, hh⟩] 1099511627776) (2 ^ (a0 + a1 + a2 + a3 + a4 + a5).toNat) with h4 | ⟨j, _, h4⟩
  · omega
  · have := h1 j; omega
/-- How many words are damaged among the first n. -/
def cntA (a0 a1 a2 a3 a4 a5 k p0 p1 p2 p3 p4 p5 : Int) (at_ : Int) (n : Nat) : Nat := if 5 ≤ at_ then (cvL a0 a1 a2 a3 a4 a5 k p0 p1 p2 p3 p4 p5 n).length else 0
theorem cntA_le (a0 a1 a2 a3 a4 a5 k p0 p1 p2 p3 p4 p5 : Int) (at_ : Int) (n : Nat) : cntA a0 a1 a2 a3 a4 a5 k p0 p1 p2 p3 p4 p5 at_ n ≤ n := by
  unfold cntA; split
  · exact cvL_len _ _ _ _ _ _ _ _ _ _ _ _ _ _
  · omega
/-- The three ways of a round. -/
theorem round_ways (a0 a1 a2 a3 a4 a5 k p0 p1 p2 p3 p4 p5 ch ms vl : Int) (hh : Bool) (at_ : Int) (j : Nat) (hc : 0 ≤ ch ∧ ch < 40) :
    (5 ≤ at_ ∧ cvB a0 a1 a2 a3 a4 a5 k p0 p1 p2 p3 p4 p5 j = true ∧ chL (mkI [⟨5, k, p0, p1, p2, p3, p4, p5, ch, ms, vl, hh⟩] (atF a0 a1 a2 a3 a4 a5 j) at_) 40 = [ch.toNat] ∧ cntA a0 a1 a2 a3 a4 a5 k p0 p1 p2 p3 p4 p5 at_ (j + 1) = cntA a0 a1 a2 a3 a4 a5 k p0 p1 p2 p3 p4 p5 at_ j + 1) ∨
    (5 ≤ at_ ∧ cvB a0 a1 a2 a3 a4 a5 k p0 p1 p2 p3 p4 p5 j = false ∧ chL (mkI [⟨5, k, p0, p1, p2, p3, p4, p5, ch, ms, vl, hh⟩] (atF a0 a1 a2 a3 a4 a5 j) at_) 40 = [] ∧ cntA a0 a1 a2 a3 a4 a5 k p0 p1 p2 p3 p4 p5 at_ (j + 1) = cntA a0 a1 a2 a3 a4 a5 k p0 p1 p2 p3 p4 p5 at_ j) ∨
    (¬ 5 ≤ at_ ∧ chL (mkI [⟨5, k, p0, p1, p2, p3, p4, p5, ch, ms, vl, hh⟩] (atF a0 a1 a2 a3 a4 a5 j) at_) 40 = [] ∧ cntA a0 a1 a2 a3 a4 a5 k p0 p1 p2 p3 p4 p5 at_ (j + 1) = cntA a0 a1 a2 a3 a4 a5 k p0 p1 p2 p3 p4 p5 at_ j) := by
  have hhit : ∀ x ∈ [(⟨5, k, p0, p1, p2, p3, p4, p5, ch, ms, vl, hh⟩ : St)], hitP x (atF a0 a1 a2 a3 a4 a5 j) at_ = (decide (5 ≤ at_) && cvB a0 a1 a2 a3 a4 a5 k p0 p1 p2 p3 p4 p5 j) ∧ x.ch = ch := by
    intro x hx; simp at hx; subst hx; exact ⟨rfl, rfl⟩
  by_cases h5 : 5 ≤ at_
  · cases hb : cvB a0 a1 a2 a3 a4 a5 k p0 p1 p2 p3 p4 p5 j
    · refine .inr (.inl ⟨h5, rfl, chL_none (fun x hx => by rw [(hhit x hx).1, hb]; simp), ?_⟩)
      unfold cntA; rw [if_pos h5, if_pos h5, cvL_no hb]
    · refine .inl ⟨h5, rfl, chL_one (by simp) (fun x hx => ⟨by rw [(hhit x hx).1, hb]; simp [h5], (hhit x hx).2⟩) hc, ?_⟩
      unfold cntA; rw [if_pos h5, if_pos h5, cvL_yes hb]; simp
  · refine .inr (.inr ⟨h5, chL_none (fun x hx => by rw [(hhit x hx).1]; simp [h5]), ?_⟩)
    unfold cntA; rw [if_neg h5, if_neg h5]

set_option maxHeartbeats 16000000 in
theorem alone_walk (sa : Option Addr) (len cap : Nat) (hl : len ≤ maxLen) (time : Int) (w : World) (hN : Nm w) (hI : Ints w sa len) :
    Calls Tryd.prog 10 #[.slice sa len cap, .int .i64 time] w (Gives (.bool true) w) := by
  have HI := Lib.hid hI
  have HNm := Lib.hid hN
  clear hI hN
  have hli := light_any sa len cap hl
  clear hl
  by_cases h400 : len ≤ 400
  · rw [decide_eq_true h400] at hli
    have HLI := Lib.hid hli
    clear hli
    have M1 := Lib.hid (fun w => gives_of (mod_any time 10 w))
    generalize modF time 10 = t1 at *
    go_enter Tryd.func10, Tryd.ntmps10
    have H := HS.start NoD w
    go_wp2_with fail
    refine (gives_of (HLI.out _)).mono ?_
    rintro _ w1 ⟨rfl, hb⟩
    replace H := H.below hb
    clear hb
    try clear C
    try simp only [World.size_alloc, List.nil_append, List.cons_append, List.append_assoc] at H
    have C := H.cells
    try simp only [cellsOf, apartOf, and_true] at C
    dsimp only
    go_wp2_with fail
    refine (roll_at w.heap.size _ _ _ h400 _ H.size (H.ints HI.out)).mono ?_
    rintro _ w2 ⟨bd, rfl, hd, hb, hbb⟩
    replace H := H.getsDice hb hd hbb (Nat.le_refl _)
    clear hb hd hbb
    try clear C
    try simp only [World.size_alloc, List.nil_append, List.cons_append, List.append_assoc] at H
    try clear w1
    have C := H.cells
    try simp only [cellsOf, apartOf, and_true] at C
    dsimp only
    go_wp2_with fail
    refine (mshape_any w.heap.size bd _ (H.at 0 rfl) H.size).mono ?_
    rintro _ w3 ⟨s0, s1, s2, s4, rfl, hM, hd, hg⟩
    replace H := (H).diceAt 0 rfl hg hd
    clear hg hd
    try clear C
    try simp only [World.size_alloc, List.nil_append, List.cons_append, List.append_assoc] at H
    try clear w2
    have C := H.cells
    try simp only [cellsOf, apartOf, and_true] at C
    dsimp only
    have HSV := Lib.hid hM.sv
    clear hM
    go_wp2_with fail
    refine (mfault_any HSV.out 6 (by omega) (by omega) w.heap.size bd _ (H.alloc.at 0 rfl) H.alloc.size).mono ?_
    rintro _ w4 ⟨k, p0, p1, p2, p3, p4, p5, ch, ms, vl, hh, rfl, hF, hd, hg⟩
    replace H := (H.alloc).diceAt 0 rfl hg hd
    clear hg hd
    try clear C
    try simp only [World.size_alloc, List.nil_append, List.cons_append, List.append_assoc] at H
    generalize w3.heap.size = bS at H ⊢
    try clear w3
    have C := H.cells
    try simp only [cellsOf, apartOf, and_true] at C
    dsimp only
    have HF := Lib.hid hF
    clear hF
    go_wp2_with fail
    refine (M1.out _).mono ?_
    rintro _ w5 ⟨rfl, hb⟩
    replace H := H.alloc.below hb
    clear hb
    try clear C
    try simp only [World.size_alloc, List.nil_append, List.cons_append, List.append_assoc] at H
    generalize w4.heap.size = bx at H ⊢
    try clear w4
    have C := H.cells
    try simp only [cellsOf, apartOf, and_true] at C
    dsimp only
    go_wp2_with fail
    have hpw := pw_12 (a := s0 + s1 + s2 + 1 + s4 + 2) HSV.out.sum
    obtain ⟨n, hn⟩ : ∃ n : Nat, n = 2 ^ (s0 + s1 + s2 + 1 + s4 + 2).toNat := ⟨_, rfl⟩
    have hni : ((n : Nat) : Int) = 2 ^ (s0 + s1 + s2 + 1 + s4 + 2).toNat := by rw [hn]; simp
    have hn4 : n ≤ 4096 := by omega
    have HSZ := Lib.hid (fun w => by have := rsize_yes HSV.out w; rw [← hni] at this; exact this : ∀ w, Calls Tryd.prog 32 #[v6 s0 s1 s2 1 s4 2] w (Gives (.int .i64 n) w))
    have HAT := Lib.hid (fun (j : Nat) w (hj : j < n) => rat_is HSV.out (Int.natCast_nonneg j) (by rw [← hni]; omega) w)
    have HCH := Lib.hid (fun (j : Nat) sa c w (hj : j < n) hN hl => chips_is (time := t1) HSV.out (Int.natCast_nonneg j) (by rw [← hni]; omega) (sa := sa) c (xs := [⟨5, k, p0, p1, p2, p3, p4, p5, ch, ms, vl, hh⟩]) (by simp) w hN hl)
    have HCV := Lib.hid (fun (j : Nat) w => rcovers_all k p0 p1 p2 p3 p4 p5 ch ms vl (atF s0 s1 s2 1 s4 2 j).a (atF s0 s1 s2 1 s4 2 j).b (atF s0 s1 s2 1 s4 2 j).c (atF s0 s1 s2 1 s4 2 j).d (atF s0 s1 s2 1 s4 2 j).e (atF s0 s1 s2 1 s4 2 j).f hh w)
    have hwo := worst_one (vl := vl) (hh := hh) HSV.out HF.out (by omega)
    have HWO := Lib.hid (fun sa c w hN hl => by have := worst_is HSV.out (sa := sa) c (xs := [⟨5, k, p0, p1, p2, p3, p4, p5, ch, ms, vl, hh⟩, ⟨5, k, p0, p1, p2, p3, p4, p5, ch, ms, vl, hh⟩]) (by simp) w hN hl; rw [hwo] at this; exact this)
    generalize (wst (nOf s0 s1 s2 1 s4 2 [⟨5, k, p0, p1, p2, p3, p4, p5, ch, ms, vl, hh⟩, ⟨5, k, p0, p1, p2, p3, p4, p5, ch, ms, vl, hh⟩] 1099511627776) (2 ^ (s0 + s1 + s2 + 1 + s4 + 2).toNat)).1 = wd at HWO
    clear hwo
    have hsn : sizeN s0 s1 s2 1 s4 2 = n := by have := sizeN_yes HSV.out; omega
    have HCO := Lib.hid (fun w => by have := rcovered_any s0 s1 s2 1 s4 2 k p0 p1 p2 p3 p4 p5 ch ms vl hh w; rw [hsn] at this; exact this : ∀ w, Calls Tryd.prog 44 #[v6 s0 s1 s2 1 s4 2, vF k p0 p1 p2 p3 p4 p5 ch ms vl hh] w (GivesRow (cvL s0 s1 s2 1 s4 2 k p0 p1 p2 p3 p4 p5 n) w))
    clear hn hni hpw hsn
    refine (HSZ.out _).mono ?_
    rintro _ w6 ⟨rfl, hb⟩
    replace H := H.below hb
    clear hb
    try clear C
    try simp only [World.size_alloc, List.nil_append, List.cons_append, List.append_assoc] at H
    try clear w5
    have C := H.cells
    try simp only [cellsOf, apartOf, and_true] at C
    dsimp only
    go_wp2_with fail
    go_loopw [9, 32] (fun u c wr => ∃ (j : Nat), c = .int .i64 j ∧ u = .int .i64 (cntA s0 s1 s2 1 s4 2 k p0 p1 p2 p3 p4 p5 t1 j) ∧ j ≤ n ∧ HS NoD w [.dice w.heap.size bd, .blk bS #[.int .i64 s0, .int .i64 s1, .int .i64 s2, .int .i64 1, .int .i64 s4, .int .i64 2] 28, .blk bx #[.int .i64 5, .int .i64 k, .int .i64 p0, .int .i64 p1, .int .i64 p2, .int .i64 p3, .int .i64 p4, .int .i64 p5, .int .i64 ch, .int .u8 ms, .int .u8 vl, .bool hh] 63] wr) (fun _ c _ => n - (intOf c).toNat)
    case atStart => exact ⟨0, rfl, by simp [cntA, cvL], Nat.zero_le _, H⟩
    case round =>
      clear H C w6
      obtain ⟨j, rfl, rfl, hj, H⟩ := hrel
      skip
      try clear C
      try simp only [World.size_alloc, List.nil_append, List.cons_append, List.append_assoc] at H
      have C := H.cells
      try simp only [cellsOf, apartOf, and_true] at C
      by_cases hlt : j < n
      · have hway := round_ways s0 s1 s2 1 s4 2 k p0 p1 p2 p3 p4 p5 ch ms vl hh t1 j ⟨HF.out.ch.1, by have := HF.out.ch.2; omega⟩
        have hcl := cntA_le s0 s1 s2 1 s4 2 k p0 p1 p2 p3 p4 p5 t1 j
        have hcn := HCH.out j
        have hcov := HCV.out j
        generalize cntA s0 s1 s2 1 s4 2 k p0 p1 p2 p3 p4 p5 t1 j = cn at hway hcl ⊢
        have HAJ := Lib.hid (fun w => HAT.out j w hlt)
        generalize chL (mkI [⟨5, k, p0, p1, p2, p3, p4, p5, ch, ms, vl, hh⟩] (atF s0 s1 s2 1 s4 2 j) t1) 40 = L at hway hcn
        have hcb : cvB s0 s1 s2 1 s4 2 k p0 p1 p2 p3 p4 p5 j = decide ((1 ≤ k ∧ k ≤ 6) ∧ CV k p0 p1 p2 p3 p4 p5 (atF s0 s1 s2 1 s4 2 j).a (atF s0 s1 s2 1 s4 2 j).b (atF s0 s1 s2 1 s4 2 j).c (atF s0 s1 s2 1 s4 2 j).d (atF s0 s1 s2 1 s4 2 j).e (atF s0 s1 s2 1 s4 2 j).f) := rfl
        rw [← hcb] at hcov
        clear hcb
        generalize cvB s0 s1 s2 1 s4 2 k p0 p1 p2 p3 p4 p5 j = cb at hcov hway
        generalize atF s0 s1 s2 1 s4 2 j = q at HAJ hcov
        have HCN := Lib.hid hcn
        have HCB := Lib.hid hcov
        have HWY := Lib.hid hway
        clear hcn hcov hway
        go_wp2_with fail
        refine (HAJ.out _).mono ?_
        rintro _ w7 ⟨rfl, hb⟩
        replace H := H.below hb
        clear hb
        try clear C
        try simp only [World.size_alloc, List.nil_append, List.cons_append, List.append_assoc] at H
        try clear wr
        have C := H.cells
        try simp only [cellsOf, apartOf, and_true] at C
        dsimp only
        go_wp2_with fail
        generalize hwb : (w7.alloc _).alloc _ = w8
        replace H := HS.eqW hwb H.alloc.alloc
        try simp only [World.size_alloc, List.nil_append, List.cons_append, List.append_assoc] at H
        clear hwb
        generalize w7.heap.size + 1 = bl at H ⊢
        generalize w7.heap.size = bp at H ⊢
        try clear C
        try clear w7
        have C := H.cells
        try simp only [cellsOf, apartOf, and_true] at C
        refine (HCN.out _ _ _ hlt (HNm.out.below H.done) (H.blkLies 4 stC_len (xs := [⟨5, k, p0, p1, p2, p3, p4, p5, ch, ms, vl, hh⟩]) rfl rfl rfl)).mono ?_
        rintro _ wq ⟨v, rfl, hr, hb⟩
        obtain ⟨g2, d2, rfl⟩ := ownsRow_slice hr
        replace H := H.getsRow hb hr
        clear hr hb
        skip
        try clear C
        try simp only [World.size_alloc, List.nil_append, List.cons_append, List.append_assoc] at H
        have C := H.cells
        try simp only [cellsOf, apartOf, and_true] at C
        have hch0 := HF.out.ch.1
        rcases HWY.out with ⟨h5, rfl, rfl, hcn⟩ | ⟨h5, rfl, rfl, hcn⟩ | ⟨h5, rfl, hcn⟩
        · have HCNT := Lib.hid hcn
          clear hcn
          have hcc : ((ch.toNat : Nat) : Int) = ch := by omega
          obtain ⟨g3, rfl, hg3, hnd⟩ := row_ptr (H.at 5 rfl) (by simp)
          skip
          go_wp2_with fail
          refine wp_region_xH (by kernel_rfl) (by kernel_rfl) (by kernel_rfl) (by kernel_rfl) (fun _ => False) (H) ?_
          clear H; intro w9 H hz0 hs0
          try clear C
          try simp only [World.size_alloc, List.nil_append, List.cons_append, List.append_assoc] at H hz0
          clear hz0
          try clear wq
          have C := H.cells
          try simp only [cellsOf, apartOf, and_true] at C
          have Z := H.zs
          try simp only [ltsOf, and_true] at Z
          have hz0 := Nat.le_refl w9.heap.size
          have c0 : w9.cell? ⟨g3, 0, none⟩ = some (.int .i64 ch) := by have := World.ownsRow.cellAt (H.at 5 rfl) 0 (by simp); simpa [intV, hcc] using this
          have hl3 : g3 < w9.heap.size := by obtain ⟨g', e, h, _⟩ := row_ptr (H.at 5 rfl) (by simp); cases e; exact h
          repeat (first | (refine wpX_skip rfl ?_; go_simp) | (refine wpX_free rfl rfl rfl (fun K hK => ?_); go_step; refine hK _ _ ?_; clear hK K) | (refine wpX_load rfl rfl rfl (by simp [Stay, OneD, NoD, *]) hs0 (by simp [*]) (fun K hK => ?_); go_step; refine hK _ _ ?_; clear hK K))
          refine wpX_eff rfl rfl (fun _ _ => ?_)
          go_step
          refine (HCB.out _).mono ?_
          rintro _ w10 ⟨rfl, hb⟩
          replace hs0 := hs0.belowS hz0 hb
          replace hz0 := Nat.le_trans hz0 hb.size
          replace H := H.below hb
          clear hb
          try clear C
          have C := H.cells
          try simp only [cellsOf, apartOf, and_true] at C
          try clear w9
          dsimp only
          go_step
          refine ⟨hs0, ?_⟩
          have c1 : w10.cell? ⟨g3, 0, none⟩ = some (.int .i64 ch) := by have := World.ownsRow.cellAt (H.at 5 rfl) 0 (by simp); simpa [intV, hcc] using this
          repeat (first | (refine wpX_skip rfl ?_; go_simp) | (refine wpX_free rfl rfl rfl (fun K hK => ?_); go_step; refine hK _ _ ?_; clear hK K) | (refine wpX_load rfl rfl rfl (by simp [Stay, OneD, NoD, *]) hs0 (by simp [*]) (fun K hK => ?_); go_step; refine hK _ _ ?_; clear hK K))
          (refine wpX_nil ?_; go_step)
          clear c0 c1 hl3
          go_wp2_with fail
          go_roundw
          case rel => exact ⟨j + 1, by go_num, by rw [HCNT.out]; go_num, by omega, H.less (by repeat (first | exact .slnil | refine .cons_cons _ ?_ | refine .cons _ ?_))⟩
          case measure => simp [intOf]; omega
        · have HCNT := Lib.hid hcn
          clear hcn
          skip
          go_wp2_with fail
          refine wp_region_xH (by kernel_rfl) (by kernel_rfl) (by kernel_rfl) (by kernel_rfl) (fun _ => False) (H) ?_
          clear H; intro w11 H hz0 hs0
          try clear C
          try simp only [World.size_alloc, List.nil_append, List.cons_append, List.append_assoc] at H hz0
          clear hz0
          try clear wq
          have C := H.cells
          try simp only [cellsOf, apartOf, and_true] at C
          have Z := H.zs
          try simp only [ltsOf, and_true] at Z
          have hz0 := Nat.le_refl w11.heap.size
          repeat (first | (refine wpX_skip rfl ?_; go_simp) | (refine wpX_free rfl rfl rfl (fun K hK => ?_); go_step; refine hK _ _ ?_; clear hK K) | (refine wpX_load rfl rfl rfl (by simp [Stay, OneD, NoD, *]) hs0 (by simp [*]) (fun K hK => ?_); go_step; refine hK _ _ ?_; clear hK K))
          refine wpX_eff rfl rfl (fun _ _ => ?_)
          go_step
          refine (HCB.out _).mono ?_
          rintro _ w12 ⟨rfl, hb⟩
          replace hs0 := hs0.belowS hz0 hb
          replace hz0 := Nat.le_trans hz0 hb.size
          replace H := H.below hb
          clear hb
          try clear C
          have C := H.cells
          try simp only [cellsOf, apartOf, and_true] at C
          try clear w11
          dsimp only
          go_step
          refine ⟨hs0, ?_⟩
          repeat (first | (refine wpX_skip rfl ?_; go_simp) | (refine wpX_free rfl rfl rfl (fun K hK => ?_); go_step; refine hK _ _ ?_; clear hK K) | (refine wpX_load rfl rfl rfl (by simp [Stay, OneD, NoD, *]) hs0 (by simp [*]) (fun K hK => ?_); go_step; refine hK _ _ ?_; clear hK K))
          (refine wpX_nil ?_; go_step)
          go_wp2_with fail
          go_roundw
          case rel => exact ⟨j + 1, by go_num, by rw [HCNT.out], by omega, H.less (by repeat (first | exact .slnil | refine .cons_cons _ ?_ | refine .cons _ ?_))⟩
          case measure => simp [intOf]; omega
        · have HCNT := Lib.hid hcn
          clear hcn
          skip
          go_wp2_with fail
          have h5' : (5 ≤ t1) = False := eq_false (by omega)
          clear h5
          refine wp_region_xH (by kernel_rfl) (by kernel_rfl) (by kernel_rfl) (by kernel_rfl) (fun _ => False) (H) ?_
          clear H; intro w13 H hz0 hs0
          try clear C
          try simp only [World.size_alloc, List.nil_append, List.cons_append, List.append_assoc] at H hz0
          clear hz0
          try clear wq
          have C := H.cells
          try simp only [cellsOf, apartOf, and_true] at C
          have Z := H.zs
          try simp only [ltsOf, and_true] at Z
          have hz0 := Nat.le_refl w13.heap.size
          repeat (first | (refine wpX_skip rfl ?_; go_simp) | (refine wpX_free rfl rfl rfl (fun K hK => ?_); go_step; refine hK _ _ ?_; clear hK K) | (refine wpX_load rfl rfl rfl (by simp [Stay, OneD, NoD, *]) hs0 (by simp [*]) (fun K hK => ?_); go_step; refine hK _ _ ?_; clear hK K))
          (refine wpX_nil ?_; go_step)
          go_wp2_with fail
          go_roundw
          case rel => exact ⟨j + 1, by go_num, by rw [HCNT.out], by omega, H.less (by repeat (first | exact .slnil | refine .cons_cons _ ?_ | refine .cons _ ?_))⟩
          case measure => simp [intOf]; omega
      · have hje : j = n := by omega
        subst hje
        skip
        go_wp2_with fail
        generalize hwb : wr.alloc _ = w14
        replace H := HS.eqW hwb H.alloc
        try simp only [World.size_alloc, List.nil_append, List.cons_append, List.append_assoc] at H
        clear hwb
        generalize wr.heap.size = bl at H ⊢
        try clear C
        try clear wr
        have C := H.cells
        try simp only [cellsOf, apartOf, and_true] at C
        refine (HWO.out _ _ _ (HNm.out.below H.done) (H.blkLies 3 stC_len (xs := [⟨5, k, p0, p1, p2, p3, p4, p5, ch, ms, vl, hh⟩, ⟨5, k, p0, p1, p2, p3, p4, p5, ch, ms, vl, hh⟩]) rfl rfl rfl)).mono ?_
        rintro _ w15 ⟨rfl, hb⟩
        replace H := H.below hb
        clear hb
        try clear C
        try simp only [World.size_alloc, List.nil_append, List.cons_append, List.append_assoc] at H
        try clear w14
        have C := H.cells
        try simp only [cellsOf, apartOf, and_true] at C
        dsimp only
        by_cases h5 : t1 < 5
        · skip
          go_wp2_with fail
          refine (awake41 _ (HNm.out.below H.done)).mono ?_
          rintro _ w16 ⟨rfl, hb⟩
          replace H := H.below hb
          clear hb
          try clear C
          try simp only [World.size_alloc, List.nil_append, List.cons_append, List.append_assoc] at H
          try clear w15
          have C := H.cells
          try simp only [cellsOf, apartOf, and_true] at C
          dsimp only
          go_wp2_with fail
          go_ret
          exact ⟨rfl, H.done⟩
        · have hcn : cntA s0 s1 s2 1 s4 2 k p0 p1 p2 p3 p4 p5 t1 j = (cvL s0 s1 s2 1 s4 2 k p0 p1 p2 p3 p4 p5 j).length := by unfold cntA; rw [if_pos (by omega)]
          rw [hcn]
          clear hcn
          generalize cvL s0 s1 s2 1 s4 2 k p0 p1 p2 p3 p4 p5 j = L at HCO ⊢
          skip
          go_wp2_with fail
          refine (HCO.out _).mono ?_
          rintro _ wq ⟨v, rfl, hr, hb⟩
          obtain ⟨g2, d2, rfl⟩ := ownsRow_slice hr
          replace H := H.getsRow hb hr
          clear hr hb
          skip
          try clear C
          try simp only [World.size_alloc, List.nil_append, List.cons_append, List.append_assoc] at H
          have C := H.cells
          try simp only [cellsOf, apartOf, and_true] at C
          go_wp2_with fail
          refine (awake41 _ (HNm.out.below H.done)).mono ?_
          rintro _ w17 ⟨rfl, hb⟩
          replace H := H.below hb
          clear hb
          try clear C
          try simp only [World.size_alloc, List.nil_append, List.cons_append, List.append_assoc] at H
          try clear wq
          have C := H.cells
          try simp only [cellsOf, apartOf, and_true] at C
          dsimp only
          go_wp2_with fail
          go_ret
          exact ⟨rfl, H.done⟩
  · rw [decide_eq_false h400] at hli
    have HLI := Lib.hid hli
    clear hli
    go_enter Tryd.func10, Tryd.ntmps10
    have H := HS.start NoD w
    go_wp2_with fail
    refine (gives_of (HLI.out _)).mono ?_
    rintro _ w1 ⟨rfl, hb⟩
    replace H := H.below hb
    clear hb
    try clear C
    try simp only [World.size_alloc, List.nil_append, List.cons_append, List.append_assoc] at H
    have C := H.cells
    try simp only [cellsOf, apartOf, and_true] at C
    dsimp only
    go_wp2_with fail
    refine (awake41 _ (HNm.out.below H.done)).mono ?_
    rintro _ w2 ⟨rfl, hb⟩
    replace H := H.below hb
    clear hb
    try clear C
    try simp only [World.size_alloc, List.nil_append, List.cons_append, List.append_assoc] at H
    try clear w1
    have C := H.cells
    try simp only [cellsOf, apartOf, and_true] at C
    dsimp only
    go_wp2_with fail
    go_ret
    exact ⟨rfl, H.done⟩
end Go.Proofs.YtaeockopliplfaaDoor
