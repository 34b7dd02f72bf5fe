/- The statement SpareTurns: its walk. -/
import Derived.Test.YtcacgmfihhpliaaApartM
import Derived.Test.YtcacgmfihhpliaaNone
import Derived.Test.YtcacgmfihhpliaaSet
namespace Go.Proofs.Ytcacgmfihhpliaa
set_option linter.unusedSimpArgs false
set_option linter.unusedVariables false
open Go.RowKit
set_option maxRecDepth 100000
attribute [local go_sem] lt_more ne_more ne_more'
attribute [local go_sem] run_mkMap
attribute [local irreducible] wpX wpF Calls

section
variable {P : Program} {D : Nat → Prop} {W w : World} {L : List Item}
/-- A map asked under a guard that lets it. -/
theorem wpList_lookup_want {ops : Array Oper} {rest : List Oper} {o : Oper} {a : Act} {Q : Exit → Act → World → Prop} (hw : Region.wanted o (yielded ops a.tmps) = true) (m x : Operand) {t k e : TypeId} (ho : o.op = .lookup t m x false)
    (ht : P.underlying t = some (.map k e)) (hk : P.underlying k = some (.int .i64)) (he : ∀ w, (zeroValue e).run P w = .ok (.bool false) w) (H : HS D W L w) (i : Nat) {b : Nat} {es : Array MapEntry} {clock : Nat} (hi : L[i]? = some (.obj b (.map es clock))) {S : List Int} (hS : SetM es S)
    (hm : a.eval m = .map (some b)) {n : Int} (hx : a.eval x = .int .i64 n) (hn : n ∉ S) (h : wpList P ops Q rest (a.put o.dst (.bool false)) w) : wpList P ops Q (o :: rest) a w := by
  unfold wpList
  rw [if_pos hw]
  refine .inl ?_
  have hr := run_lookup_set ht hk he (H.at i hi) hS n
  rw [decide_eq_false hn] at hr
  unfold Oper.wp execOp
  simp only [ho, hm, hx, Sem.run_bind, hr, Result.andThen_ok, Sem.run_pure]
  exact h
end
/-- The word that is used in place of the word i. -/
def turnI (a0 a1 a2 a3 a4 a5 : Int) (xs : List S8) (i : Int) : Int :=
  idx a1 a2 a3 a4 a5 (atF a0 a1 a2 a3 a4 a5 i).a (atF a0 a1 a2 a3 a4 a5 i).b (atF a0 a1 a2 a3 a4 a5 i).c (atF a0 a1 a2 a3 a4 a5 i).d (turnR xs (atF a0 a1 a2 a3 a4 a5 i)) (atF a0 a1 a2 a3 a4 a5 i).f
theorem turnI_at {a0 a1 a2 a3 a4 a5 n i : Int} {xs : List S8} {c : Nat} (h : SpV a0 a1 a2 a3 a4 a5 n xs c) (hi0 : 0 ≤ i) (hi1 : i < 2 ^ (a0 + a1 + a2 + a3 + a4 + a5).toNat) :
    0 ≤ turnI a0 a1 a2 a3 a4 a5 xs i ∧ turnI a0 a1 a2 a3 a4 a5 xs i < 2 ^ (a0 + a1 + a2 + a3 + a4 + a5).toNat ∧ atF a0 a1 a2 a3 a4 a5 (turnI a0 a1 a2 a3 a4 a5 xs i) = (atF a0 a1 a2 a3 a4 a5 i).row (turnR xs (atF a0 a1 a2 a3 a4 a5 i)) ∧ turnI a0 a1 a2 a3 a4 a5 xs (turnI a0 a1 a2 a3 a4 a5 xs i) = i := by
  obtain ⟨hp, hx⟩ := at_pv h.sv hi0 hi1
  have hp2 := turn_pv h hp
  have h1 := idx_in h.sv hp2
  have h2 := at_of_idx h.sv hp2
  refine ⟨h1.1, h1.2, h2, ?_⟩
  show idx _ _ _ _ _ (atF a0 a1 a2 a3 a4 a5 (turnI a0 a1 a2 a3 a4 a5 xs i)).a _ _ _ _ _ = i
  have h3 : atF a0 a1 a2 a3 a4 a5 (turnI a0 a1 a2 a3 a4 a5 xs i) = (atF a0 a1 a2 a3 a4 a5 i).row (turnR xs (atF a0 a1 a2 a3 a4 a5 i)) := h2
  rw [h3, turn_back h]
  exact hx
set_option maxHeartbeats 16000000 in
theorem spTurns_walk (sa : Option Addr) (len cap : Nat) (hl : len ≤ maxLen) (w : World) (hI : Ints w sa len) :
    Calls Try.prog 5 #[.slice sa len cap] w (Gives (.bool true) w) := by
  have HT : Try.prog.underlying 60 = some (.map 3 4) := by kernel_rfl
  have HK : Try.prog.underlying 3 = some (.int .i64) := by kernel_rfl
  have HE : ∀ w, (zeroValue 4).run Try.prog w = .ok (.bool false) w := fun w => by rfl
  have HI := Lib.hid hI
  clear hI
  have hli := light_any sa len cap hl
  clear hl
  have HAW := Lib.hid awake36
  by_cases h400 : len ≤ 400
  · rw [decide_eq_true h400] at hli
    have HLI := Lib.hid hli
    clear hli
    go_enter Try.func5, Try.ntmps5
    have H := HS.start NoD w
    go_wp2_with fail
    refine (gives_of (HLI.out _)).mono ?_
    rintro _ w1 ⟨rfl, hb⟩
    replace H := H.below hb
    clear hb
    try clear C
    try simp only [World.size_alloc, List.nil_append, List.cons_append, List.append_assoc] at H
    have C := H.cells
    try simp only [cellsOf, apartOf, and_true] at C
    dsimp only
    go_wp2_with fail
    refine (roll_at w.heap.size _ _ _ h400 _ H.size (H.ints HI.out)).mono ?_
    rintro _ w2 ⟨bd, rfl, hd, hb, hbb⟩
    replace H := H.getsDice hb hd hbb (Nat.le_refl _)
    clear hb hd hbb
    try clear C
    try simp only [World.size_alloc, List.nil_append, List.cons_append, List.append_assoc] at H
    try clear w1
    have C := H.cells
    try simp only [cellsOf, apartOf, and_true] at C
    dsimp only
    go_wp2_with fail
    refine (mspares_any w.heap.size bd _ (H.at 0 rfl) H.size).mono ?_
    rintro _ wg ⟨s0, s1, s2, s4, n, sx, c, xs, rfl, hr, hms, hv, h7, h0, hd, hg⟩
    replace H := H.diceRow 0 rfl hg hd hr
    clear hr hd hg
    try simp only [List.nil_append, List.cons_append, List.append_assoc] at H
    skip
    try clear C
    try simp only [World.size_alloc, List.nil_append, List.cons_append, List.append_assoc] at H
    have C := H.cells
    try simp only [cellsOf, apartOf, and_true] at C
    have sv := hv.sv
    have hz := rwz_in sv
    have hNN := pw_12 (a := s0 + s1 + s2 + 1 + s4 + 2) sv.sum
    have hN1 := pw_pos (s0 + s1 + s2 + 1 + s4 + 2)
    have hsz : ∀ w, Calls Try.prog 30 #[v6 s0 s1 s2 1 s4 2] w (Gives (.int .i64 (2 ^ (s0 + s1 + s2 + 1 + s4 + 2).toNat)) w) := fun w => rsize_yes sv w
    obtain ⟨N, hN⟩ : ∃ N : Int, N = 2 ^ (s0 + s1 + s2 + 1 + s4 + 2).toNat := ⟨_, rfl⟩
    rw [← hN] at hsz hNN hN1
    have HN := Lib.hid hN
    have HSZ := Lib.hid hsz
    clear hN hsz
    go_upto_region 5 with fail
    generalize hwb : (wg.alloc _).alloc _ = wm
    replace H := HS.eqW hwb H.alloc.allocObj
    try simp only [World.size_alloc, List.nil_append, List.cons_append, List.append_assoc] at H
    clear hwb C
    generalize wg.heap.size + 1 = bm at H ⊢
    generalize wg.heap.size = bX at H ⊢
    clear wg
    skip
    try clear C
    try simp only [World.size_alloc, List.nil_append, List.cons_append, List.append_assoc] at H
    have C := H.cells
    try simp only [cellsOf, apartOf, and_true] at C
    go_wp2_with fail
    refine (HSZ.out _).mono ?_
    rintro _ w3 ⟨rfl, hb⟩
    replace H := H.below hb
    clear hb
    try clear C
    try simp only [World.size_alloc, List.nil_append, List.cons_append, List.append_assoc] at H
    try clear wm
    have C := H.cells
    try simp only [cellsOf, apartOf, and_true] at C
    dsimp only
    go_wp2_with fail
    go_loopw [29] (fun cc wr => ∃ (i : Int) (es : Array MapEntry) (clock : Nat) (S : List Int), cc = .int .i64 i ∧ 0 ≤ i ∧ i ≤ N ∧ Hid (SetM es S) ∧ Hid (∀ v ∈ S, ∃ j, 0 ≤ j ∧ j < i ∧ turnI s0 s1 s2 1 s4 2 xs j = v) ∧ HS NoD w [.dice w.heap.size bd, .row (.slice sx xs.length c) 38 8 xs.length (xs.flatMap sC), .blk bX #[.int .i64 s0, .int .i64 s1, .int .i64 s2, .int .i64 1, .int .i64 s4, .int .i64 2, .int .i64 n, .slice sx xs.length c] 26, .obj bm (.map es clock)] wr) (fun cc _ => (N - intOf cc).toNat)
    case atStart => exact ⟨0, #[], 0, [], rfl, Int.le_refl _, by omega, SetM.nil, fun v hv => (List.not_mem_nil hv).elim, H⟩
    case round =>
      clear H C w3
      obtain ⟨i, es, clock, S, rfl, hi0, hiN, HSM, HSI, H⟩ := hrel
      skip
      try clear C
      try simp only [World.size_alloc, List.nil_append, List.cons_append, List.append_assoc] at H
      have C := H.cells
      try simp only [cellsOf, apartOf, and_true] at C
      by_cases hi : i < N
      · have hiS : i < 2 ^ (s0 + s1 + s2 + 1 + s4 + 2).toNat := by rw [← HN.out]; exact hi
        obtain ⟨hk0, hk1, hka, hkk⟩ := turnI_at hv hi0 hiS
        obtain ⟨hpq, -⟩ := at_pv sv hi0 hiS
        obtain ⟨hpk, -⟩ := at_pv sv hk0 hk1
        have HAI := Lib.hid (fun w => rat_is sv hi0 hiS w)
        have hak := fun w => rat_is sv hk0 hk1 w
        have hti := fun w hl => turn_of hv hi0 hiS rfl hpq (sa := sx) w hl
        have htk := fun w hl => turn_of hv hk0 hk1 rfl hpk (sa := sx) w hl
        have hri := fun w hl => sreserved_of hv hi0 hiS (sa := sx) w hl
        have hrk := fun w hl => sreserved_of hv hk0 hk1 (sa := sx) w hl
        have HTI := Lib.hid (fun w (hl : Lies w w.heap.size sx 8 xs.length (fun j => sC xs[j]!)) => (show Calls Try.prog 32 #[vSp s0 s1 s2 1 s4 2 n (.slice sx xs.length c), .int .i64 i] w (Gives (.tuple #[.int .i64 (turnI s0 s1 s2 1 s4 2 xs i), .int .i64 0]) w) from hti w hl))
        have HTK := Lib.hid (fun w (hl : Lies w w.heap.size sx 8 xs.length (fun j => sC xs[j]!)) => (by
          have := htk w hl
          change Calls _ _ _ _ (Gives (.tuple #[.int .i64 (turnI s0 s1 s2 1 s4 2 xs (turnI s0 s1 s2 1 s4 2 xs i)), .int .i64 0]) w) at this
          rwa [hkk] at this : Calls Try.prog 32 #[vSp s0 s1 s2 1 s4 2 n (.slice sx xs.length c), .int .i64 (turnI s0 s1 s2 1 s4 2 xs i)] w (Gives (.tuple #[.int .i64 i, .int .i64 0]) w)))
        rw [hka] at hak hrk
        have HAK := Lib.hid hak
        have HRI := Lib.hid hri
        have HRK := Lib.hid hrk
        have HNEW : Hid (turnI s0 s1 s2 1 s4 2 xs i ∉ S) := fun hm => by
          obtain ⟨j, h1, h2, h3⟩ := HSI.out _ hm
          have e := (turnI_at hv h1 (by rw [← HN.out]; omega)).2.2.2
          rw [h3, hkk] at e
          omega
        have HADD : Hid (∀ v ∈ S ++ [turnI s0 s1 s2 1 s4 2 xs i], ∃ j, 0 ≤ j ∧ j < i + 1 ∧ turnI s0 s1 s2 1 s4 2 xs j = v) := fun v hm => by
          rcases List.mem_append.1 hm with hm | hm
          · obtain ⟨j, h1, h2, h3⟩ := HSI.out v hm
            exact ⟨j, h1, by omega, h3⟩
          · rw [List.mem_singleton.1 hm]
            exact ⟨i, hi0, by omega, rfl⟩
        have htc := turn_cases hv (atF s0 s1 s2 1 s4 2 i)
        have hsame : turnI s0 s1 s2 1 s4 2 xs i = i ↔ turnR xs (atF s0 s1 s2 1 s4 2 i) = (atF s0 s1 s2 1 s4 2 i).e := by
          constructor
          · intro e
            have h1 := hka
            rw [e] at h1
            exact (congrArg P6.e h1).symm
          · intro e
            show idx _ _ _ _ _ _ _ _ _ (turnR xs (atF s0 s1 s2 1 s4 2 i)) _ = i
            rw [e]
            exact (at_pv sv hi0 hiS).2
        have hfin : (xs.any (hitS (atF s0 s1 s2 1 s4 2 i)) = false ∧ turnI s0 s1 s2 1 s4 2 xs i = i) ∨ (xs.any (hitS (atF s0 s1 s2 1 s4 2 i)) = true ∧ turnI s0 s1 s2 1 s4 2 xs i ≠ i ∧ (rwz s4 - n ≤ (atF s0 s1 s2 1 s4 2 i).e ↔ ¬ rwz s4 - n ≤ turnR xs (atF s0 s1 s2 1 s4 2 i))) := by
          rcases htc with ⟨h1, h2⟩ | ⟨t, h1, ho, -, -, -, -, -, -, -, hh⟩
          · exact .inl ⟨h1, hsame.2 h2⟩
          · have k := (okS_iff hv.n0 (p0 := t.p0) (p1 := t.p1) (p2 := t.p2) (p3 := t.p3) (p4 := t.p4) (p5 := t.p5) (r := t.r) (s := t.s)).1 ho
            refine .inr ⟨h1, fun e => ?_, ?_⟩
            · have := hsame.1 e; omega
            · omega
        have HFIN := Lib.hid hfin
        clear hpq hpk hka hkk hk0 hk1 htc hsame hfin hak hti htk hri hrk hiS
        generalize turnI s0 s1 s2 1 s4 2 xs i = k at *
        obtain ⟨q, hq⟩ : ∃ q, q = atF s0 s1 s2 1 s4 2 i := ⟨_, rfl⟩
        rw [← hq] at HAI HAK HRI HRK HFIN
        clear hq
        generalize turnR xs q = e2 at *
        obtain ⟨q0, q1, q2, q3, q4, q5⟩ := q
        dsimp only [P6.row] at HAK HRK
        go_wp2_with fail
        refine (HTI.out _ (H.rowLies 1 sC_len rfl rfl)).mono ?_
        rintro _ w4 ⟨rfl, hb⟩
        replace H := H.below hb
        clear hb
        try clear C
        try simp only [World.size_alloc, List.nil_append, List.cons_append, List.append_assoc] at H
        try clear wr
        have C := H.cells
        try simp only [cellsOf, apartOf, and_true] at C
        dsimp only
        go_wp2_with fail
        refine (HTK.out _ (H.rowLies 1 sC_len rfl rfl)).mono ?_
        rintro _ w5 ⟨rfl, hb⟩
        replace H := H.below hb
        clear hb
        try clear C
        try simp only [World.size_alloc, List.nil_append, List.cons_append, List.append_assoc] at H
        try clear w4
        have C := H.cells
        try simp only [cellsOf, apartOf, and_true] at C
        dsimp only
        go_upto_region 10 with fail
        go_upto_region 12 with (refine wpList_lookup_want (by rfl) (.tmp 56) (.tmp 57) rfl HT HK HE H 3 rfl HSM.out rfl rfl HNEW.out ?_)
        go_upto_region 13 with (refine wpList_update_set rfl (.tmp 60) (.tmp 61) _ rfl HT HK H 3 rfl HSM.out rfl rfl rfl HNEW.out (fun wz es' clock' hS' HZ => ?_))
        have HSM' := Lib.hid hS'
        clear hS' HSM HNEW C H
        have H := HZ
        clear HZ
        try simp only [List.nil_append, List.cons_append, List.append_assoc, List.set_cons_succ, List.set_cons_zero] at H
        skip
        try clear C
        try simp only [World.size_alloc, List.nil_append, List.cons_append, List.append_assoc] at H
        have C := H.cells
        try simp only [cellsOf, apartOf, and_true] at C
        go_wp2_with fail
        refine (HAI.out _).mono ?_
        rintro _ w6 ⟨rfl, hb⟩
        replace H := H.below hb
        clear hb
        try clear C
        try simp only [World.size_alloc, List.nil_append, List.cons_append, List.append_assoc] at H
        try clear wz
        have C := H.cells
        try simp only [cellsOf, apartOf, and_true] at C
        dsimp only
        go_wp2_with fail
        refine (HAK.out _).mono ?_
        rintro _ w7 ⟨rfl, hb⟩
        replace H := H.alloc.below hb
        clear hb
        try clear C
        try simp only [World.size_alloc, List.nil_append, List.cons_append, List.append_assoc] at H
        generalize w6.heap.size = bP at H ⊢
        try clear w6
        have C := H.cells
        try simp only [cellsOf, apartOf, and_true] at C
        dsimp only
        go_upto_region 15 with fail
        generalize hwb : w7.alloc _ = w8
        replace H := HS.eqW hwb H.alloc
        try simp only [World.size_alloc, List.nil_append, List.cons_append, List.append_assoc] at H
        clear hwb
        generalize w7.heap.size = bQ at H ⊢
        try clear C
        try clear w7
        have C := H.cells
        try simp only [cellsOf, apartOf, and_true] at C
        go_upto_region 17 with fail
        generalize hwb : World.setCell (World.setCell w8 _ _) _ _ = wq
        replace H := HS.eqW hwb ((H.setTo (o := 4) (v := .int .i64 0) 4 rfl rfl).setTo (o := 4) (v := .int .i64 0) 5 rfl rfl)
        clear hwb C
        replace H : HS NoD w [.dice w.heap.size bd, .row (.slice sx xs.length c) 38 8 xs.length (xs.flatMap sC), .blk bX #[.int .i64 s0, .int .i64 s1, .int .i64 s2, .int .i64 1, .int .i64 s4, .int .i64 2, .int .i64 n, .slice sx xs.length c] 26, .obj bm (.map es' clock'), .blk bP #[.int .i64 q0, .int .i64 q1, .int .i64 q2, .int .i64 q3, .int .i64 0, .int .i64 q5] 28, .blk bQ #[.int .i64 q0, .int .i64 q1, .int .i64 q2, .int .i64 q3, .int .i64 0, .int .i64 q5] 28] wq := H
        skip
        try clear C
        try simp only [World.size_alloc, List.nil_append, List.cons_append, List.append_assoc] at H
        have C := H.cells
        try simp only [cellsOf, apartOf, and_true] at C
        have hne : ∀ w, (binOp .neq 28 (v6 q0 q1 q2 q3 0 q5) (v6 q0 q1 q2 q3 0 q5)).run Try.prog w = .ok (.bool false) w := fun w => by rw [neq6, decide_eq_true ⟨rfl, rfl, rfl, rfl, rfl, rfl⟩]; rfl
        go_upto_region 20 with fail
        clear hne
        generalize hwb : World.setCell wq _ _ = wq2
        replace H := HS.eqW hwb (H.setTo (o := 5) (v := .int .i64 0) 4 rfl rfl)
        clear hwb C
        replace H : HS NoD w [.dice w.heap.size bd, .row (.slice sx xs.length c) 38 8 xs.length (xs.flatMap sC), .blk bX #[.int .i64 s0, .int .i64 s1, .int .i64 s2, .int .i64 1, .int .i64 s4, .int .i64 2, .int .i64 n, .slice sx xs.length c] 26, .obj bm (.map es' clock'), .blk bP #[.int .i64 q0, .int .i64 q1, .int .i64 q2, .int .i64 q3, .int .i64 0, .int .i64 0] 28, .blk bQ #[.int .i64 q0, .int .i64 q1, .int .i64 q2, .int .i64 q3, .int .i64 0, .int .i64 q5] 28] wq2 := H
        clear wq
        skip
        try clear C
        try simp only [World.size_alloc, List.nil_append, List.cons_append, List.append_assoc] at H
        have C := H.cells
        try simp only [cellsOf, apartOf, and_true] at C
        go_wp2_with fail
        go_loopw [15, 91] (fun u cc wr => ∃ (j : Nat), cc = .int .i64 j ∧ j ≤ xs.length ∧ u = .bool ((xs.take j).any (hitS ⟨q0, q1, q2, q3, q4, q5⟩)) ∧ HS NoD w [.dice w.heap.size bd, .row (.slice sx xs.length c) 38 8 xs.length (xs.flatMap sC), .blk bX #[.int .i64 s0, .int .i64 s1, .int .i64 s2, .int .i64 1, .int .i64 s4, .int .i64 2, .int .i64 n, .slice sx xs.length c] 26, .obj bm (.map es' clock'), .blk bP #[.int .i64 q0, .int .i64 q1, .int .i64 q2, .int .i64 q3, .int .i64 0, .int .i64 0] 28, .blk bQ #[.int .i64 q0, .int .i64 q1, .int .i64 q2, .int .i64 q3, .int .i64 0, .int .i64 q5] 28] wr) (fun _ cc _ => xs.length - (intOf cc).toNat)
        case atStart => exact ⟨0, rfl, Nat.zero_le _, rfl, H⟩
        case round =>
          clear H C wq2
          obtain ⟨j, rfl, hj, rfl, H⟩ := hrel
          skip
          try clear C
          try simp only [World.size_alloc, List.nil_append, List.cons_append, List.append_assoc] at H
          have C := H.cells
          try simp only [cellsOf, apartOf, and_true] at C
          by_cases hlt : j < xs.length
          · obtain ⟨b, o, rfl, hb, hc⟩ := (H.rowLies 1 sC_len rfl rfl).at hlt
            have HTAKE := Lib.hid (any_take (p := hitS ⟨q0, q1, q2, q3, q4, q5⟩) hlt)
            obtain ⟨x, hxj⟩ : ∃ x, x = xs[j]! := ⟨_, rfl⟩
            rw [← hxj] at hc HTAKE
            obtain ⟨t0, t1, t2, t3, t4, t5, r, s⟩ := x
            have c0 : wr.cell? ⟨b, o + j * 8, none⟩ = some (.int .i64 t0) := hc 0 _ rfl
            have c1 : wr.cell? ⟨b, o + j * 8 + 1, none⟩ = some (.int .i64 t1) := hc 1 _ rfl
            have c2 : wr.cell? ⟨b, o + j * 8 + 2, none⟩ = some (.int .i64 t2) := hc 2 _ rfl
            have c3 : wr.cell? ⟨b, o + j * 8 + 3, none⟩ = some (.int .i64 t3) := hc 3 _ rfl
            have c4 : wr.cell? ⟨b, o + j * 8 + 4, none⟩ = some (.int .i64 t4) := hc 4 _ rfl
            have c5 : wr.cell? ⟨b, o + j * 8 + 5, none⟩ = some (.int .i64 t5) := hc 5 _ rfl
            have c6 : wr.cell? ⟨b, o + j * 8 + 6, none⟩ = some (.int .i64 r) := hc 6 _ rfl
            have c7 : wr.cell? ⟨b, o + j * 8 + 7, none⟩ = some (.int .i64 s) := hc 7 _ rfl
            clear hc hxj
            go_upto_region 24 with fail
            generalize hwb : wr.alloc _ = w9
            replace H := HS.eqW hwb H.alloc
            try simp only [World.size_alloc, List.nil_append, List.cons_append, List.append_assoc] at H
            clear hwb
            generalize wr.heap.size = bT at H ⊢
            try clear C
            try clear wr
            have C := H.cells
            try simp only [cellsOf, apartOf, and_true] at C
            clear c0 c1 c2 c3 c4 c5 c6 c7
            generalize (xs.take j).any (hitS ⟨q0, q1, q2, q3, q4, q5⟩) = u at *
            skip
            cases u with
            | true =>
              go_wp2_with fail
              go_roundw
              case rel => exact ⟨j + 1, by go_num, by omega, by rw [HTAKE.out, Bool.true_or], H.less (by repeat (first | exact .slnil | refine .cons_cons _ ?_ | refine .cons _ ?_))⟩
              case measure => simp [intOf]; omega
            | false =>
              by_cases hbk : t0 = q0 ∧ t1 = q1 ∧ t2 = q2 ∧ t3 = q3 ∧ t4 = 0 ∧ t5 = 0
              · have hq : ∀ w, (binOp .eql 28 (v6 t0 t1 t2 t3 t4 t5) (v6 q0 q1 q2 q3 0 0)).run Try.prog w = .ok (.bool true) w := fun w => by rw [eql6, decide_eq_true hbk]
                have HBE := Lib.hid hbk
                clear hbk
                by_cases hr : r = q4
                · have HH := Lib.hid (show hitS ⟨q0, q1, q2, q3, q4, q5⟩ ⟨t0, t1, t2, t3, t4, t5, r, s⟩ = true by unfold hitS; rw [decide_eq_true HBE.out]; simp [hr])
                  skip
                  go_wp2_with fail
                  go_roundw
                  case rel => exact ⟨j + 1, by go_num, by omega, by rw [HTAKE.out, Bool.false_or, HH.out], H.less (by repeat (first | exact .slnil | refine .cons_cons _ ?_ | refine .cons _ ?_))⟩
                  case measure => simp [intOf]; omega
                · have hrb : (r == q4) = false := beq_eq_false_iff_ne.2 hr
                  by_cases hs : s = q4
                  · have HH := Lib.hid (show hitS ⟨q0, q1, q2, q3, q4, q5⟩ ⟨t0, t1, t2, t3, t4, t5, r, s⟩ = true by unfold hitS; rw [decide_eq_true HBE.out]; simp [hs])
                    skip
                    go_wp2_with fail
                    go_roundw
                    case rel => exact ⟨j + 1, by go_num, by omega, by rw [HTAKE.out, Bool.false_or, HH.out], H.less (by repeat (first | exact .slnil | refine .cons_cons _ ?_ | refine .cons _ ?_))⟩
                    case measure => simp [intOf]; omega
                  · have hsb : (s == q4) = false := beq_eq_false_iff_ne.2 hs
                    have HH := Lib.hid (show hitS ⟨q0, q1, q2, q3, q4, q5⟩ ⟨t0, t1, t2, t3, t4, t5, r, s⟩ = false by unfold hitS; simp [hr, hs])
                    skip
                    go_wp2_with fail
                    go_roundw
                    case rel => exact ⟨j + 1, by go_num, by omega, by rw [HTAKE.out, Bool.false_or, HH.out], H.less (by repeat (first | exact .slnil | refine .cons_cons _ ?_ | refine .cons _ ?_))⟩
                    case measure => simp [intOf]; omega
              · have hq : ∀ w, (binOp .eql 28 (v6 t0 t1 t2 t3 t4 t5) (v6 q0 q1 q2 q3 0 0)).run Try.prog w = .ok (.bool false) w := fun w => by rw [eql6, decide_eq_false hbk]
                have HH := Lib.hid (show hitS ⟨q0, q1, q2, q3, q4, q5⟩ ⟨t0, t1, t2, t3, t4, t5, r, s⟩ = false by unfold hitS; rw [decide_eq_false hbk]; rfl)
                clear hbk
                skip
                go_wp2_with fail
                go_roundw
                case rel => exact ⟨j + 1, by go_num, by omega, by rw [HTAKE.out, Bool.false_or, HH.out], H.less (by repeat (first | exact .slnil | refine .cons_cons _ ?_ | refine .cons _ ?_))⟩
                case measure => simp [intOf]; omega
          · have hje : j = xs.length := by omega
            subst hje
            rw [List.take_length]
            skip
            go_upto_region 26 with fail
            skip
            rcases HFIN.out with ⟨hany, hki⟩ | ⟨hany, hki, hrr⟩
            · rw [hany]
              have hkb : (k == i) = true := beq_iff_eq.2 hki
              have HKI := Lib.hid hki
              clear hki
              refine wp_region_xH (by kernel_rfl) (by kernel_rfl) (by kernel_rfl) (by kernel_rfl) (fun _ => False) (H) ?_
              clear H; intro w10 H hz0 hs0
              try clear C
              try simp only [World.size_alloc, List.nil_append, List.cons_append, List.append_assoc] at H hz0
              clear hz0
              try clear wr
              have C := H.cells
              try simp only [cellsOf, apartOf, and_true] at C
              have Z := H.zs
              try simp only [ltsOf, and_true] at Z
              have hz0 := Nat.le_refl w10.heap.size
              repeat (first | (refine wpX_skip rfl ?_; go_simp) | (refine wpX_free rfl rfl rfl (fun K hK => ?_); go_step; refine hK _ _ ?_; clear hK K) | (refine wpX_load rfl rfl rfl (by simp [Stay, OneD, NoD, *]) hs0 (by simp [*]) (fun K hK => ?_); go_step; refine hK _ _ ?_; clear hK K))
              (refine wpX_nil ?_; go_step)
              go_wp2_with fail
              try clear hs0
              try clear hz0
              try clear Z
              go_roundw
              case rel => exact ⟨i + 1, es', clock', _, by go_num, by omega, by omega, HSM', HADD, H.less (by repeat (first | exact .slnil | refine .cons_cons _ ?_ | refine .cons _ ?_))⟩
              case measure => simp [intOf]; omega
            · rw [hany]
              have hkb : (k == i) = false := beq_eq_false_iff_ne.2 hki
              by_cases hA : rwz s4 - n ≤ q4
              · have hB : ¬ rwz s4 - n ≤ e2 := by have := hrr.1 hA; omega
                have HRI2 := Lib.hid (fun w hl => (by have := HRI.out w hl; rwa [decide_eq_true hA] at this : Calls Try.prog 34 #[vSp s0 s1 s2 1 s4 2 n (.slice sx xs.length c), .int .i64 i] w (Gives (.bool true) w)))
                have HRK2 := Lib.hid (fun w hl => (by have : Calls Try.prog 34 #[vSp s0 s1 s2 1 s4 2 n (.slice sx xs.length c), .int .i64 k] w (Gives (.bool (decide (rwz s4 - n ≤ e2))) w) := HRK.out w hl; rwa [decide_eq_false hB] at this : Calls Try.prog 34 #[vSp s0 s1 s2 1 s4 2 n (.slice sx xs.length c), .int .i64 k] w (Gives (.bool false) w)))
                clear hA hB hrr hki
                skip
                refine wp_region_xH (by kernel_rfl) (by kernel_rfl) (by kernel_rfl) (by kernel_rfl) (fun _ => False) (H) ?_
                clear H; intro w11 H hz0 hs0
                try clear C
                try simp only [World.size_alloc, List.nil_append, List.cons_append, List.append_assoc] at H hz0
                clear hz0
                try clear wr
                have C := H.cells
                try simp only [cellsOf, apartOf, and_true] at C
                have Z := H.zs
                try simp only [ltsOf, and_true] at Z
                have hz0 := Nat.le_refl w11.heap.size
                repeat (first | (refine wpX_skip rfl ?_; go_simp) | (refine wpX_free rfl rfl rfl (fun K hK => ?_); go_step; refine hK _ _ ?_; clear hK K) | (refine wpX_load rfl rfl rfl (by simp [Stay, OneD, NoD, *]) hs0 (by simp [*]) (fun K hK => ?_); go_step; refine hK _ _ ?_; clear hK K))
                refine wpX_eff rfl rfl (fun _ _ => ?_)
                go_step
                refine (HRI2.out _ (H.rowLies 1 sC_len rfl rfl)).mono ?_
                rintro _ w12 ⟨rfl, hb⟩
                replace hs0 := hs0.belowS hz0 hb
                replace hz0 := Nat.le_trans hz0 hb.size
                replace H := H.below hb
                clear hb
                try clear C
                have C := H.cells
                try simp only [cellsOf, apartOf, and_true] at C
                try clear w11
                dsimp only
                go_step
                refine ⟨hs0, ?_⟩
                repeat (first | (refine wpX_skip rfl ?_; go_simp) | (refine wpX_free rfl rfl rfl (fun K hK => ?_); go_step; refine hK _ _ ?_; clear hK K) | (refine wpX_load rfl rfl rfl (by simp [Stay, OneD, NoD, *]) hs0 (by simp [*]) (fun K hK => ?_); go_step; refine hK _ _ ?_; clear hK K))
                refine wpX_eff rfl rfl (fun _ _ => ?_)
                go_step
                refine (HRK2.out _ (H.rowLies 1 sC_len rfl rfl)).mono ?_
                rintro _ w13 ⟨rfl, hb⟩
                replace hs0 := hs0.belowS hz0 hb
                replace hz0 := Nat.le_trans hz0 hb.size
                replace H := H.below hb
                clear hb
                try clear C
                have C := H.cells
                try simp only [cellsOf, apartOf, and_true] at C
                try clear w12
                dsimp only
                go_step
                refine ⟨hs0, ?_⟩
                repeat (first | (refine wpX_skip rfl ?_; go_simp) | (refine wpX_free rfl rfl rfl (fun K hK => ?_); go_step; refine hK _ _ ?_; clear hK K) | (refine wpX_load rfl rfl rfl (by simp [Stay, OneD, NoD, *]) hs0 (by simp [*]) (fun K hK => ?_); go_step; refine hK _ _ ?_; clear hK K))
                (refine wpX_nil ?_; go_step)
                go_wp2_with fail
                try clear hs0
                try clear hz0
                try clear Z
                go_roundw
                case rel => exact ⟨i + 1, es', clock', _, by go_num, by omega, by omega, HSM', HADD, H.less (by repeat (first | exact .slnil | refine .cons_cons _ ?_ | refine .cons _ ?_))⟩
                case measure => simp [intOf]; omega
              · have hB : rwz s4 - n ≤ e2 := by
                  by_cases h : rwz s4 - n ≤ e2
                  · exact h
                  · exact absurd (hrr.2 (by omega)) hA
                have HRI2 := Lib.hid (fun w hl => (by have := HRI.out w hl; rwa [decide_eq_false hA] at this : Calls Try.prog 34 #[vSp s0 s1 s2 1 s4 2 n (.slice sx xs.length c), .int .i64 i] w (Gives (.bool false) w)))
                have HRK2 := Lib.hid (fun w hl => (by have : Calls Try.prog 34 #[vSp s0 s1 s2 1 s4 2 n (.slice sx xs.length c), .int .i64 k] w (Gives (.bool (decide (rwz s4 - n ≤ e2))) w) := HRK.out w hl; rwa [decide_eq_true hB] at this : Calls Try.prog 34 #[vSp s0 s1 s2 1 s4 2 n (.slice sx xs.length c), .int .i64 k] w (Gives (.bool true) w)))
                clear hA hB hrr hki
                skip
                refine wp_region_xH (by kernel_rfl) (by kernel_rfl) (by kernel_rfl) (by kernel_rfl) (fun _ => False) (H) ?_
                clear H; intro w14 H hz0 hs0
                try clear C
                try simp only [World.size_alloc, List.nil_append, List.cons_append, List.append_assoc] at H hz0
                clear hz0
                try clear wr
                have C := H.cells
                try simp only [cellsOf, apartOf, and_true] at C
                have Z := H.zs
                try simp only [ltsOf, and_true] at Z
                have hz0 := Nat.le_refl w14.heap.size
                repeat (first | (refine wpX_skip rfl ?_; go_simp) | (refine wpX_free rfl rfl rfl (fun K hK => ?_); go_step; refine hK _ _ ?_; clear hK K) | (refine wpX_load rfl rfl rfl (by simp [Stay, OneD, NoD, *]) hs0 (by simp [*]) (fun K hK => ?_); go_step; refine hK _ _ ?_; clear hK K))
                refine wpX_eff rfl rfl (fun _ _ => ?_)
                go_step
                refine (HRI2.out _ (H.rowLies 1 sC_len rfl rfl)).mono ?_
                rintro _ w15 ⟨rfl, hb⟩
                replace hs0 := hs0.belowS hz0 hb
                replace hz0 := Nat.le_trans hz0 hb.size
                replace H := H.below hb
                clear hb
                try clear C
                have C := H.cells
                try simp only [cellsOf, apartOf, and_true] at C
                try clear w14
                dsimp only
                go_step
                refine ⟨hs0, ?_⟩
                repeat (first | (refine wpX_skip rfl ?_; go_simp) | (refine wpX_free rfl rfl rfl (fun K hK => ?_); go_step; refine hK _ _ ?_; clear hK K) | (refine wpX_load rfl rfl rfl (by simp [Stay, OneD, NoD, *]) hs0 (by simp [*]) (fun K hK => ?_); go_step; refine hK _ _ ?_; clear hK K))
                refine wpX_eff rfl rfl (fun _ _ => ?_)
                go_step
                refine (HRK2.out _ (H.rowLies 1 sC_len rfl rfl)).mono ?_
                rintro _ w16 ⟨rfl, hb⟩
                replace hs0 := hs0.belowS hz0 hb
                replace hz0 := Nat.le_trans hz0 hb.size
                replace H := H.below hb
                clear hb
                try clear C
                have C := H.cells
                try simp only [cellsOf, apartOf, and_true] at C
                try clear w15
                dsimp only
                go_step
                refine ⟨hs0, ?_⟩
                repeat (first | (refine wpX_skip rfl ?_; go_simp) | (refine wpX_free rfl rfl rfl (fun K hK => ?_); go_step; refine hK _ _ ?_; clear hK K) | (refine wpX_load rfl rfl rfl (by simp [Stay, OneD, NoD, *]) hs0 (by simp [*]) (fun K hK => ?_); go_step; refine hK _ _ ?_; clear hK K))
                (refine wpX_nil ?_; go_step)
                go_wp2_with fail
                try clear hs0
                try clear hz0
                try clear Z
                go_roundw
                case rel => exact ⟨i + 1, es', clock', _, by go_num, by omega, by omega, HSM', HADD, H.less (by repeat (first | exact .slnil | refine .cons_cons _ ?_ | refine .cons _ ?_))⟩
                case measure => simp [intOf]; omega
      · skip
        go_wp2_with fail
        refine (HAW.out _).mono ?_
        rintro _ w17 ⟨rfl, hb⟩
        replace H := H.below hb
        clear hb
        try clear C
        try simp only [World.size_alloc, List.nil_append, List.cons_append, List.append_assoc] at H
        try clear wr
        have C := H.cells
        try simp only [cellsOf, apartOf, and_true] at C
        dsimp only
        go_wp2_with fail
        go_ret
        exact ⟨rfl, H.done⟩
  · rw [decide_eq_false h400] at hli
    have HLI := Lib.hid hli
    clear hli
    go_enter Try.func5, Try.ntmps5
    have H := HS.start NoD w
    go_wp2_with fail
    refine (gives_of (HLI.out _)).mono ?_
    rintro _ w1 ⟨rfl, hb⟩
    replace H := H.below hb
    clear hb
    try clear C
    try simp only [World.size_alloc, List.nil_append, List.cons_append, List.append_assoc] at H
    have C := H.cells
    try simp only [cellsOf, apartOf, and_true] at C
    dsimp only
    go_wp2_with fail
    refine (HAW.out _).mono ?_
    rintro _ w2 ⟨rfl, hb⟩
    replace H := H.below hb
    clear hb
    try clear C
    try simp only [World.size_alloc, List.nil_append, List.cons_append, List.append_assoc] at H
    try clear w1
    have C := H.cells
    try simp only [cellsOf, apartOf, and_true] at C
    dsimp only
    go_wp2_with fail
    go_ret
    exact ⟨rfl, H.done⟩
end Go.Proofs.Ytcacgmfihhpliaa
