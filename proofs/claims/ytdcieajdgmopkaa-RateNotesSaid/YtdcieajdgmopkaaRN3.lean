/- The specification of layer 26: Note, whatever the gauges. -/
import Derived.Test.YtdcieajdgmopkaaRN2
import Derived.Test.YtdcieajdgmopkaaRN1
import Derived.Test.YtdcieajdgmopkaaGenZ
namespace Go.Proofs.Ytdcieajdgmopkaa
set_option linter.unusedSimpArgs false
set_option linter.unusedVariables false
open Go.RowKit
set_option maxRecDepth 100000
attribute [local go_sem] lt_more ne_more ne_more'
attribute [local irreducible] wpX wpF wpG wpH Calls

theorem World.ownsRow.lenCap {w : World} {B : Nat} {e : TypeId} {k n c : Nat} {sa : Option Addr} {cs : List Value} (h : w.ownsRow B e k (.slice sa n c) n cs) : n ≤ c := by
  rcases h.2 with ⟨h2, h3⟩ | ⟨g, cap, cur, hv, hg, hh, hnc, r⟩
  · injection h2 with h4 h5 h6; omega
  · injection hv with h4 h5 h6; omega
theorem rnote_inv {P L part T n : Int} {sa : Option Addr} (c : Nat) {xs : List G3} (hx : xs.length ≤ 1000) (hv : rvB P L xs = false) (w : World) (hl : Lies w w.heap.size sa 3 xs.length (fun j => gC xs[j]!)) :
    Calls Try.prog 10 #[vG P L (.slice sa xs.length c), .int .i64 part, .int .i64 T, .int .i64 n] w (Gives (.tuple #[zG, .bool false, .int .i64 1]) w) := by
  have HV := Lib.hid (fun w hl => by have := rv26_any P L c (xs := xs) (sa := sa) hx w hl; rw [hv] at this; exact this : ∀ w, Lies w w.heap.size sa 3 xs.length (fun j => gC xs[j]!) → Calls Try.prog 13 #[vG P L (.slice sa xs.length c)] w (Gives (.bool false) w))
  have HL := Lib.hid hl
  clear hl hv
  go_enter Try.func10, Try.ntmps10
  have H := HS.start NoD w
  go_wp2_with fail
  refine (HV.out _ (H.alloc.alloc.liesUp HL.out)).mono ?_
  rintro _ w1 ⟨rfl, hb⟩
  replace H := H.alloc.alloc.below hb
  clear hb
  try clear C
  try simp only [World.size_alloc, List.nil_append, List.cons_append, List.append_assoc] at H
  generalize w.heap.size + 1 = bR at H ⊢
  generalize w.heap.size = bG at H ⊢
  have C := H.cells
  try simp only [cellsOf, apartOf, and_true] at C
  dsimp only
  go_wp2_with fail
  generalize hwb : ((w1.setCell _ _).setCell _ _).setCell _ _ = w2
  replace H := HS.eqW hwb (H.putAll (i := 1) rfl (vs := [.int .i64 0, .int .i64 0, .slice none 0 0]) rfl rfl)
  simp only [List.nil_append, List.cons_append, List.append_assoc, List.set_cons_succ, List.set_cons_zero] at H
  clear hwb
  try clear C
  try clear w1
  have C := H.cells
  try simp only [cellsOf, apartOf, and_true] at C
  refine bodyPost_ret (by simp [results, Try.results10, go_sem, C]; try rfl) rfl ?_
  exact ⟨rfl, H.done⟩
theorem rnote_range {P L part T n : Int} {sa : Option Addr} (c : Nat) {xs : List G3} (hx : xs.length ≤ 1000) (hv : rvB P L xs = true) (hr : ¬ (0 ≤ part ∧ (0 ≤ T ∧ T ≤ 1099511627776) ∧ (1 ≤ n ∧ n ≤ 1048576))) (w : World) (hl : Lies w w.heap.size sa 3 xs.length (fun j => gC xs[j]!)) :
    Calls Try.prog 10 #[vG P L (.slice sa xs.length c), .int .i64 part, .int .i64 T, .int .i64 n] w (Gives (.tuple #[zG, .bool false, .int .i64 2]) w) := by
  have HV := Lib.hid (fun w hl => by have := rv26_any P L c (xs := xs) (sa := sa) hx w hl; rw [hv] at this; exact this : ∀ w, Lies w w.heap.size sa 3 xs.length (fun j => gC xs[j]!) → Calls Try.prog 13 #[vG P L (.slice sa xs.length c)] w (Gives (.bool true) w))
  have HL := Lib.hid hl
  have HR := Lib.hid hr
  clear hl hv hr
  go_enter Try.func10, Try.ntmps10
  have H := HS.start NoD w
  go_wp2_with fail
  refine (HV.out _ (H.alloc.alloc.liesUp HL.out)).mono ?_
  rintro _ w1 ⟨rfl, hb⟩
  replace H := H.alloc.alloc.below hb
  clear hb
  try clear C
  try simp only [World.size_alloc, List.nil_append, List.cons_append, List.append_assoc] at H
  generalize w.heap.size + 1 = bR at H ⊢
  generalize w.heap.size = bG at H ⊢
  have C := H.cells
  try simp only [cellsOf, apartOf, and_true] at C
  dsimp only
  skip
  by_cases g0 : part < 0
  · skip
    go_wp2_with fail
    generalize hwb : ((w1.setCell _ _).setCell _ _).setCell _ _ = w2
    replace H := HS.eqW hwb (H.putAll (i := 1) rfl (vs := [.int .i64 0, .int .i64 0, .slice none 0 0]) rfl rfl)
    simp only [List.nil_append, List.cons_append, List.append_assoc, List.set_cons_succ, List.set_cons_zero] at H
    clear hwb
    try clear C
    try clear w1
    have C := H.cells
    try simp only [cellsOf, apartOf, and_true] at C
    refine bodyPost_ret (by simp [results, Try.results10, go_sem, C]; try rfl) rfl ?_
    exact ⟨rfl, H.done⟩
  · by_cases g1 : T < 0
    · skip
      go_wp2_with fail
      generalize hwb : ((w1.setCell _ _).setCell _ _).setCell _ _ = w3
      replace H := HS.eqW hwb (H.putAll (i := 1) rfl (vs := [.int .i64 0, .int .i64 0, .slice none 0 0]) rfl rfl)
      simp only [List.nil_append, List.cons_append, List.append_assoc, List.set_cons_succ, List.set_cons_zero] at H
      clear hwb
      try clear C
      try clear w1
      have C := H.cells
      try simp only [cellsOf, apartOf, and_true] at C
      refine bodyPost_ret (by simp [results, Try.results10, go_sem, C]; try rfl) rfl ?_
      exact ⟨rfl, H.done⟩
    · by_cases g2 : 1099511627776 < T
      · skip
        go_wp2_with fail
        generalize hwb : ((w1.setCell _ _).setCell _ _).setCell _ _ = w4
        replace H := HS.eqW hwb (H.putAll (i := 1) rfl (vs := [.int .i64 0, .int .i64 0, .slice none 0 0]) rfl rfl)
        simp only [List.nil_append, List.cons_append, List.append_assoc, List.set_cons_succ, List.set_cons_zero] at H
        clear hwb
        try clear C
        try clear w1
        have C := H.cells
        try simp only [cellsOf, apartOf, and_true] at C
        refine bodyPost_ret (by simp [results, Try.results10, go_sem, C]; try rfl) rfl ?_
        exact ⟨rfl, H.done⟩
      · by_cases g3 : n < 1
        · skip
          go_wp2_with fail
          generalize hwb : ((w1.setCell _ _).setCell _ _).setCell _ _ = w5
          replace H := HS.eqW hwb (H.putAll (i := 1) rfl (vs := [.int .i64 0, .int .i64 0, .slice none 0 0]) rfl rfl)
          simp only [List.nil_append, List.cons_append, List.append_assoc, List.set_cons_succ, List.set_cons_zero] at H
          clear hwb
          try clear C
          try clear w1
          have C := H.cells
          try simp only [cellsOf, apartOf, and_true] at C
          refine bodyPost_ret (by simp [results, Try.results10, go_sem, C]; try rfl) rfl ?_
          exact ⟨rfl, H.done⟩
        · by_cases g4 : 1048576 < n
          · skip
            go_wp2_with fail
            generalize hwb : ((w1.setCell _ _).setCell _ _).setCell _ _ = w6
            replace H := HS.eqW hwb (H.putAll (i := 1) rfl (vs := [.int .i64 0, .int .i64 0, .slice none 0 0]) rfl rfl)
            simp only [List.nil_append, List.cons_append, List.append_assoc, List.set_cons_succ, List.set_cons_zero] at H
            clear hwb
            try clear C
            try clear w1
            have C := H.cells
            try simp only [cellsOf, apartOf, and_true] at C
            refine bodyPost_ret (by simp [results, Try.results10, go_sem, C]; try rfl) rfl ?_
            exact ⟨rfl, H.done⟩
          · exact absurd ⟨by omega, by omega, by omega⟩ HR.out

set_option maxHeartbeats 16000000 in
theorem rnote_rest {P L part T n : Int} {sa : Option Addr} (c : Nat) {xs : List G3} (hv : rvB P L xs = true) (hr : 0 ≤ part ∧ (0 ≤ T ∧ T ≤ 1099511627776) ∧ (1 ≤ n ∧ n ≤ 1048576)) (w : World) (hl : Lies w w.heap.size sa 3 xs.length (fun j => gC xs[j]!)) :
    Calls Try.prog 10 #[vG P L (.slice sa xs.length c), .int .i64 part, .int .i64 T, .int .i64 n] w (NoteP P L part T n xs w) := by
  have hv0 := hv
  unfold rvB at hv0
  simp only [Bool.and_eq_true, decide_eq_true_eq] at hv0
  obtain ⟨hok, ⟨⟨hP, hL⟩, hlen⟩⟩ := hv0
  obtain ⟨hsx, hpw⟩ := sorted_of hok
  obtain ⟨hpart, hT, hn⟩ := hr
  have hgok : GOK P T xs := ⟨hP.1, hP.2, hT.1, hT.2, by omega, fun x hx => (hsx x hx).2⟩
  have HV := Lib.hid (fun w hl => by have := rv26_any P L c (xs := xs) (sa := sa) (by omega) w hl; rw [hv] at this; exact this : ∀ w, Lies w w.heap.size sa 3 xs.length (fun j => gC xs[j]!) → Calls Try.prog 13 #[vG P L (.slice sa xs.length c)] w (Gives (.bool true) w))
  have HLK := Lib.hid (fun w (hl : Lies w w.heap.size sa 3 xs.length (fun j => gC xs[j]!)) => rleak_ok L c hgok w hl)
  have hys := (sorted_leak (P := P) (T := T) hpw)
  have hbd := Lib.hid (fun y hy => leak_in (y := y) hgok hy)
  have hyl64 := Nat.le_trans (leakL_len P T xs) hlen
  have HE46 : Hid ((∃ x ∈ xs, T < x.t) → noteErr P L part T n xs = 46) := fun ⟨x, hx, ht⟩ => by
    unfold noteErr
    rw [if_neg (by rw [hv]; decide), if_neg (Decidable.not_not.2 ⟨hpart, hT, hn⟩), if_pos (List.any_eq_true.2 ⟨x, hx, decide_eq_true ht⟩)]
  have HE16 : Hid ((∀ x ∈ xs, x.t ≤ T) → (64 ≤ (leakL P T xs).length ∧ ¬ ∃ x ∈ leakL P T xs, x.p = part) → noteErr P L part T n xs = 16) := fun ha hf => by
    unfold noteErr
    rw [if_neg (by rw [hv]; decide), if_neg (Decidable.not_not.2 ⟨hpart, hT, hn⟩), if_neg (by rw [Bool.not_eq_true, List.any_eq_false]; intro x hx; have := ha x hx; simp; omega), if_pos hf]
  have HE00 : Hid ((∀ x ∈ xs, x.t ≤ T) → ¬ (64 ≤ (leakL P T xs).length ∧ ¬ ∃ x ∈ leakL P T xs, x.p = part) → noteErr P L part T n xs = 0) := fun ha hf => by
    unfold noteErr
    rw [if_neg (by rw [hv]; decide), if_neg (Decidable.not_not.2 ⟨hpart, hT, hn⟩), if_neg (by rw [Bool.not_eq_true, List.any_eq_false]; intro x hx; have := ha x hx; simp; omega), if_neg hf]
  unfold NoteP NotePA
  generalize noteErr P L part T n xs = ERR at HE46 HE16 HE00 ⊢
  generalize hye : leakL P T xs = ys at HLK hys hbd hyl64 HE16 HE00 ⊢
  have HYE := Lib.hid hye
  have HYS := Lib.hid hys
  have HL := Lib.hid hl
  clear hye hys hl hv hok hsx hpw hgok
  go_enter Try.func10, Try.ntmps10
  have H := HS.start NoD w
  go_wp2_with fail
  refine (HV.out _ (H.alloc.alloc.liesUp HL.out)).mono ?_
  rintro _ w1 ⟨rfl, hb⟩
  replace H := H.alloc.alloc.below hb
  clear hb
  try clear C
  try simp only [World.size_alloc, List.nil_append, List.cons_append, List.append_assoc] at H
  generalize w.heap.size + 1 = bR at H ⊢
  generalize w.heap.size = bG at H ⊢
  have C := H.cells
  try simp only [cellsOf, apartOf, and_true] at C
  dsimp only
  go_wp2_with fail
  go_loopw [43] (fun i wr => ∃ (j : Nat), i = .int .i64 j ∧ j ≤ xs.length ∧ Hid (∀ k, k < j → xs[k]!.t ≤ T) ∧ HS NoD w [.blk bG #[.int .i64 P, .int .i64 L, .slice sa xs.length c] 24, .blk bR #[.int .i64 0, .int .i64 0, .slice none 0 0] 24] wr) (fun i _ => xs.length - (intOf i).toNat)
  case atStart => exact ⟨0, rfl, Nat.zero_le _, fun k hk => absurd hk (Nat.not_lt_zero _), H⟩
  case round =>
    clear H C w1
    obtain ⟨j, rfl, hj, HALL, H⟩ := hrel
    skip
    try clear C
    try simp only [World.size_alloc, List.nil_append, List.cons_append, List.append_assoc] at H
    have C := H.cells
    try simp only [cellsOf, apartOf, and_true] at C
    by_cases hlt : j < xs.length
    · obtain ⟨b, o, rfl, hb, hc⟩ := (H.lies HL.out).at hlt
      obtain ⟨x, hxj⟩ : ∃ x, x = xs[j]! := ⟨_, rfl⟩
      have HXM := Lib.hid (show x ∈ xs by rw [hxj, getElem!_pos xs j hlt]; exact List.getElem_mem _)
      have HXJ := Lib.hid hxj
      rw [← hxj] at hc
      clear hxj
      obtain ⟨p, l, t⟩ := x
      have c0 : wr.cell? ⟨b, o + j * 3, none⟩ = some (.int .i64 p) := hc 0 _ rfl
      have c1 : wr.cell? ⟨b, o + j * 3 + 1, none⟩ = some (.int .i64 l) := hc 1 _ rfl
      have c2 : wr.cell? ⟨b, o + j * 3 + 2, none⟩ = some (.int .i64 t) := hc 2 _ rfl
      clear hc
      go_upto_region 8 with fail
      generalize hwb : wr.alloc _ = w2
      replace H := HS.eqW hwb H.alloc
      try simp only [World.size_alloc, List.nil_append, List.cons_append, List.append_assoc] at H
      clear hwb
      generalize wr.heap.size = bx at H ⊢
      try clear C
      try clear wr
      have C := H.cells
      try simp only [cellsOf, apartOf, and_true] at C
      clear c0 c1 c2 hb
      skip
      by_cases ht : T < t
      · have he : ERR = 46 := HE46.out ⟨_, HXM.out, ht⟩
        subst he
        clear HE46 HE16 HE00
        skip
        go_wp2_with fail
        generalize hwb : ((w2.setCell _ _).setCell _ _).setCell _ _ = w3
        replace H := HS.eqW hwb (H.putAll (i := 1) rfl (vs := [.int .i64 0, .int .i64 0, .slice none 0 0]) rfl rfl)
        simp only [List.nil_append, List.cons_append, List.append_assoc, List.set_cons_succ, List.set_cons_zero] at H
        clear hwb
        try clear C
        try clear w2
        have C := H.cells
        try simp only [cellsOf, apartOf, and_true] at C
        refine bodyPost_ret (by simp [results, Try.results10, go_sem, C]; try rfl) rfl ?_
        exact .inl ⟨by decide, rfl, H.done⟩
      · skip
        go_wp2_with fail
        go_roundw
        case rel => exact ⟨j + 1, by go_num, by omega, (fun k hk => by
          by_cases e : k = j
          · rw [e, ← HXJ.out]; dsimp only; omega
          · exact HALL.out k (by omega) : Hid (∀ k, k < j + 1 → xs[k]!.t ≤ T)), H.less (by repeat (first | exact .slnil | refine .cons_cons _ ?_ | refine .cons _ ?_))⟩
        case measure => simp [intOf]; omega
    · have hje : j = xs.length := by omega
      subst hje
      have HAX : Hid (∀ x ∈ xs, x.t ≤ T) := fun x hx => by
        obtain ⟨m, hm, he⟩ := List.mem_iff_getElem.1 hx
        have := HALL.out m hm
        rw [getElem!_pos xs m hm, he] at this
        exact this
      skip
      go_wp2_with fail
      refine (HLK.out _ (H.liesUp HL.out)).mono ?_
      rintro _ w4 ⟨sb, d, rfl, hr, hb⟩
      replace H := (H).getsRow hb hr
      clear hb hr
      try clear C
      try simp only [World.size_alloc, List.nil_append, List.cons_append, List.append_assoc] at H
      try clear wr
      have C := H.cells
      try simp only [cellsOf, apartOf, and_true] at C
      dsimp only
      go_wp2_with fail
      generalize hwb : w4.alloc _ = w5
      replace H := HS.eqW hwb H.alloc
      try simp only [World.size_alloc, List.nil_append, List.cons_append, List.append_assoc] at H
      clear hwb
      generalize w4.heap.size = bO at H ⊢
      try clear C
      try clear w4
      have C := H.cells
      try simp only [cellsOf, apartOf, and_true] at C
      go_loopw [14] (fun u wr => ∃ (i : Nat), u = .int .i64 i ∧ i ≤ ys.length ∧ Hid (∀ k, k < i → ys[k]!.p < part) ∧ HS NoD w [.blk bG #[.int .i64 P, .int .i64 L, .slice sa xs.length c] 24, .blk bR #[.int .i64 0, .int .i64 0, .slice none 0 0] 24, .row (.slice sb ys.length d) 33 3 ys.length (ys.flatMap gC), .blk bO #[.int .i64 P, .int .i64 L, .slice sb ys.length d] 24] wr) (fun u _ => ys.length - (intOf u).toNat)
      case atStart => exact ⟨0, rfl, Nat.zero_le _, fun k hk => absurd hk (Nat.not_lt_zero _), H⟩
      case round =>
        clear H C
        obtain ⟨i, rfl, hi, HLO, H⟩ := hrel
        skip
        try clear C
        try simp only [World.size_alloc, List.nil_append, List.cons_append, List.append_assoc] at H
        have C := H.cells
        try simp only [cellsOf, apartOf, and_true] at C
        by_cases hil : i < ys.length
        · obtain ⟨g, rfl, hg, hnd⟩ := ownsRow_ptr (H.at 2 rfl) (by omega)
          obtain ⟨b', o', hbo, hb', hc⟩ := (H.rowLies 2 gC_len rfl rfl).at hil
          simp only [Option.some.injEq, Addr.mk.injEq, and_true] at hbo
          obtain ⟨rfl, rfl⟩ := hbo
          obtain ⟨y, hyi⟩ : ∃ y, y = ys[i]! := ⟨_, rfl⟩
          rw [← hyi] at hc
          have c0 : wr.cell? ⟨g, i * 3, none⟩ = some (.int .i64 y.p) := by simpa using hc 0 _ rfl
          have hli : (i : Int) < ys.length := by omega
          have HYI := Lib.hid hyi
          clear hc hyi hg
          skip
          by_cases hlp : y.p < part
          · go_wp2_with fail
            go_roundw
            case rel => exact ⟨i + 1, by go_num, by omega, (fun k hk => by
              by_cases e : k = i
              · rw [e, ← HYI.out]; exact hlp
              · exact HLO.out k (by omega) : Hid (∀ k, k < i + 1 → ys[k]!.p < part)), H.less (by repeat (first | exact .slnil | refine .cons_cons _ ?_ | refine .cons _ ?_))⟩
            case measure => simp [intOf]; omega
          · by_cases hpp : y.p = part
            · have hyb := hbd.out ys[i]! (by rw [getElem!_pos ys i hil]; exact List.getElem_mem _)
              rw [← HYI.out] at hyb
              have HER := Lib.hid (HE00.out HAX.out (fun h => h.2 ⟨ys[i]!, by rw [getElem!_pos ys i hil]; exact List.getElem_mem _, by rw [← HYI.out]; exact hpp⟩))
              clear HE46 HE16 HE00
              obtain ⟨yp, l0, t0⟩ := y
              dsimp only at hlp hpp c0 hyb
              subst hpp
              have HZ1 := Lib.hid hil
              have HZ2 := Lib.hid HYI.out.symm
              have HZ3 : Hid (NoteA yp T n ys (ys.set i ⟨yp, min (l0 + n) 1048576, t0⟩) (min (l0 + n) 1048576)) := by
                have := NoteA.found (part := yp) (T := T) (n := n) ys i hil (by rw [← HYI.out]) HYS.out
                rw [← HYI.out] at this
                exact this
              have hl0b : 0 ≤ l0 ∧ l0 ≤ 1048576 := by omega
              skip
              go_upto_region 19 with fail
              clear c0 hlp hb'
              skip
              try clear C
              try simp only [World.size_alloc, List.nil_append, List.cons_append, List.append_assoc] at H
              have C := H.cells
              try simp only [cellsOf, apartOf, and_true] at C
              obtain ⟨b', o', hbo, hb', hc⟩ := (H.rowLies 2 gC_len rfl rfl).at HZ1.out
              simp only [Option.some.injEq, Addr.mk.injEq, and_true] at hbo
              obtain ⟨rfl, rfl⟩ := hbo
              have hfz := World.ownsRow.frozenAt (H.at 2 rfl) (i * 3 + 1)
              rw [HZ2.out] at hc
              have c1 : wr.cell? ⟨g, i * 3 + 1, none⟩ = some (.int .i64 l0) := by simpa using hc 1 _ rfl
              have q1 : wrap64 (l0 + n) = l0 + n := IntWalk.wrap64_in _ (by omega)
              obtain ⟨lv, hlv⟩ : ∃ lv, lv = min (l0 + n) 1048576 := ⟨_, rfl⟩
              have q2 : (if l0 + n < 1048576 then l0 + n else 1048576) = lv := by rw [hlv]; omega
              have q3 : min 1048576 (l0 + n) = lv := by rw [hlv]; omega
              have HLV := Lib.hid hlv
              clear hc hlv
              have e1 : (i : Int) < ys.length := by have := HZ1.out; omega
              go_upto_region 19 with fail
              go_region
              try simp only [q1, q2, q3]
              generalize hwb : (World.setCell _ _ _).drew = wa
              have H8 := HS.eqW hwb (H.rowSet 2 rfl (i * 3 + 1) (.int .i64 lv)).drew
              clear H C c1 hwb q1 q2 q3 hfz
              have H := H8
              clear H8
              rw [← flat_set gC_len ys i 1 ⟨yp, lv, t0⟩ (.int .i64 lv) HZ1.out (by decide) (by rw [HZ2.out]; rfl)] at H
              simp only [List.nil_append, List.cons_append, List.append_assoc, List.set_cons_succ, List.set_cons_zero] at H
              have hlen2 : (ys.set i ⟨yp, lv, t0⟩).length = ys.length := List.length_set
              obtain ⟨zs, hzs⟩ : ∃ zs, zs = ys.set i ⟨yp, lv, t0⟩ := ⟨_, rfl⟩
              have HR : NoteA yp T n ys zs lv := by rw [hzs, HLV.out]; exact HZ3.out
              rw [← hzs] at H hlen2
              have hzi : zs[i]! = ⟨yp, lv, t0⟩ := by rw [hzs, getElem!_pos _ i (by rw [List.length_set]; exact HZ1.out), List.getElem_set_self]
              have HNR := Lib.hid HR
              clear HR hzs
              rw [← hlen2] at H e1
              have HLN := Lib.hid hlen2
              obtain ⟨b', o', hbo, hb', hc⟩ := (H.rowLies 2 gC_len rfl rfl).at (show i < zs.length by have := HZ1.out; omega)
              rw [hzi] at hc
              simp only [Option.some.injEq, Addr.mk.injEq, and_true] at hbo
              obtain ⟨rfl, rfl⟩ := hbo
              have c1 : wa.cell? ⟨g, i * 3 + 1, none⟩ = some (.int .i64 lv) := by simpa using hc 1 _ rfl
              clear hc hzi hlen2
              skip
              try clear C
              try simp only [World.size_alloc, List.nil_append, List.cons_append, List.append_assoc] at H
              have C := H.cells
              try simp only [cellsOf, apartOf, and_true] at C
              obtain ⟨n1, n2⟩ := H.rowApart 2 1 rfl rfl (by decide)
              obtain ⟨n3, n4⟩ := H.rowApart 2 3 rfl rfl (by decide)
              go_upto_region 20 with fail
              go_region
              generalize hwb : (World.setCell _ _ _).drew = wb
              have H9 := HS.eqW hwb (H.putAll (i := 1) rfl (vs := [.int .i64 P, .int .i64 L, .slice (some ⟨g, 0, none⟩) zs.length d]) rfl rfl).drew
              clear H C c1 hwb n1 n2 n3 n4
              have H := H9
              clear H9
              simp only [List.nil_append, List.cons_append, List.append_assoc, List.set_cons_succ, List.set_cons_zero] at H
              skip
              try clear C
              try simp only [World.size_alloc, List.nil_append, List.cons_append, List.append_assoc] at H
              have C := H.cells
              try simp only [cellsOf, apartOf, and_true] at C
              repeat go_step
              refine bodyPost_ret (by simp [results, Try.results10, go_sem, C]; try rfl) rfl ?_
              exact .inr ⟨HER.out, zs, lv, HNR.out, H.givesS 2 (mk := fun v => .tuple #[vG P L v, .bool (decide (L ≤ lv)), .int .i64 0]) rfl⟩
            · have HGT : Hid (∀ k, i ≤ k → k < ys.length → part < ys[k]!.p) := fun k h1 h2 => by
                have h5 : part < ys[i]!.p := by rw [← HYI.out]; omega
                by_cases e : k = i
                · subst e; exact h5
                · have h4 := List.pairwise_iff_getElem.1 HYS.out i k (by omega) h2 (by omega)
                  rw [getElem!_pos ys k h2]
                  rw [getElem!_pos ys i (by omega)] at h5
                  omega
              have hbne : (y.p != part) = true := bne_iff_ne.2 hpp
              have HNF : Hid (¬ ∃ x ∈ ys, x.p = part) := fun ⟨x, hx, hp⟩ => by
                obtain ⟨m, hm, he⟩ := List.mem_iff_getElem.1 hx
                have hm' : ys[m]! = x := by rw [getElem!_pos ys m hm, he]
                by_cases hmi : m < i
                · have := HLO.out m hmi; rw [hm'] at this; omega
                · have := HGT.out m (by omega) hm; rw [hm'] at this; omega
              by_cases hfull : 64 ≤ ys.length
              · have he : ERR = 16 := HE16.out HAX.out ⟨hfull, HNF.out⟩
                subst he
                clear HE46 HE16 HE00
                have hfi : (64 : Int) ≤ ys.length := by omega
                skip
                go_wp2_with fail
                generalize hwb : ((wr.setCell _ _).setCell _ _).setCell _ _ = w6
                replace H := HS.eqW hwb (H.putAll (i := 1) rfl (vs := [.int .i64 0, .int .i64 0, .slice none 0 0]) rfl rfl)
                simp only [List.nil_append, List.cons_append, List.append_assoc, List.set_cons_succ, List.set_cons_zero] at H
                clear hwb
                try clear C
                try clear wr
                have C := H.cells
                try simp only [cellsOf, apartOf, and_true] at C
                refine bodyPost_ret (by simp [results, Try.results10, go_sem, C]; try rfl) rfl ?_
                first | exact .inl ⟨by decide, rfl, H.done⟩ | exact ⟨rfl, H.done⟩
              · have HER := Lib.hid (HE00.out HAX.out (fun h => hfull h.1))
                clear HE46 HE16 HE00
                have hfi : ¬ (64 : Int) ≤ ys.length := by omega
                have hil2 : (i : Int) ≤ ys.length := by omega
                have hdd : ys.length ≤ d := (World.ownsRow.lenCap (H.at 2 rfl))
                have hid : (i : Int) ≤ d := by omega
                skip
                go_upto_region 18 with fail
                replace H := H.nilRow 33 3
                try simp only [List.nil_append, List.cons_append] at H
                refine wp_region_hz (by kernel_rfl) [0, 1, 2, 3, 4, 5, 6, 7, 8, 9, 10, 11, 12, 13, 14, 15] (by kernel_rfl) (by kernel_rfl) (by kernel_rfl) rfl (fun _ => False) (H) ?_
                clear H; intro w7 H hz0
                try clear C
                try simp only [World.size_alloc, List.nil_append, List.cons_append, List.append_assoc] at H hz0 ⊢
                clear hz0
                try clear wr
                have C := H.cells
                try simp only [cellsOf, apartOf, and_true] at C
                have Z := H.zs
                try simp only [ltsOf, and_true] at Z
                simp only [List.filterMap_cons, List.filterMap_nil, List.getElem?_toArray, List.getElem?_cons_zero, List.getElem?_cons_succ]
                have hsz := (src_pre (H.at 2 rfl) hi).2
                have hsz2 := (src_part (H.at 2 rfl) hi (Nat.le_refl _)).2
                have HSZ := Lib.hid hsz
                have HSZ2 := Lib.hid hsz2
                clear hsz hsz2
                obtain ⟨sx, hsx⟩ : ∃ sx : Option Addr, sx = (if d = i then (some ⟨g, 0, none⟩ : Option Addr) else (some ⟨g, 0, none⟩ : Option Addr).map (·.add (i * 3))) := ⟨_, rfl⟩
                have HSX := Lib.hid hsx
                clear hsx
                (refine wpH_free rfl rfl rfl (fun _ _ => ?_); go_step; go_step)
                (refine wpH_load rfl rfl rfl (by simp [Stay, OneD, NoD, *]) (by simp [*]) (fun _ _ => ?_); go_step; go_step)
                (refine wpH_free rfl rfl rfl (fun _ _ => ?_); go_step; go_step)
                (refine wpH_yield rfl rfl (.slice (some ⟨g, 0, none⟩ : Option Addr) i d) (fun w _ => by go_simp) ?_; go_simp)
                refine wpH_append rfl (.const (.slice none 0 0)) (.tmp 96) 22 rfl elemG 4 rfl rfl (by simp [Value.ownBlock]) (fun _ h => h.1) rfl (fun w hc => (src_pre (hc.hs.at 2 rfl) hi).1) HSZ.out (fun y hy => gC_one ys y (List.mem_of_mem_take hy)) (by unfold maxLen; omega) (by omega) (N := i) (Nat.zero_add i) (fun s1 c1 hs1 => ?_)
                (refine wpH_free rfl rfl rfl (fun _ _ => ?_); go_step; go_step)
                (refine wpH_free rfl rfl rfl (fun _ _ => ?_); go_step; go_step)
                (refine wpH_free rfl rfl rfl (fun _ _ => ?_); go_step; go_step)
                (refine wpH_lit rfl rfl #[.int .i64 part, .int .i64 0, .int .i64 T]   33 1 (fun w => by kernel_rfl) (fun bL hbL nbL _ _ => ?_); go_simp; go_step)
                refine wpH_append rfl (.tmp 97) (.tmp 101) 22 rfl elemG 4 rfl rfl hs1 (fun _ h => h.1) rfl (fun w hc => src_lit (Fl.at _ _ _) hc) rfl (fun y hy => gC_one [⟨part, 0, T⟩] y (by simpa [gC] using hy)) (by unfold maxLen; omega) (by omega) (N := i + 1) rfl (fun s2 c2 hs2 => ?_)
                (refine wpH_free rfl rfl rfl (fun _ _ => ?_); go_step; go_step)
                (refine wpH_load rfl rfl rfl (by simp [Stay, OneD, NoD, *]) (by simp [*]) (fun _ _ => ?_); go_step; go_step)
                (refine wpH_free rfl rfl rfl (fun _ _ => ?_); go_step; go_step)
                (refine wpH_yield rfl rfl (.slice sx (ys.length - i) (d - i) ) (fun w _ => by  (rw [HSX.out]; go_simp)) ?_; go_simp)
                refine wpH_append rfl (.tmp 102) (.tmp 106) 22 rfl elemG 4 rfl rfl hs2 (fun _ h => h.1) rfl (fun w hc => by rw [HSX.out]; exact (src_part (hc.hs.at 2 rfl) hi (Nat.le_refl _)).1) HSZ2.out (fun y hy => gC_one ys y (List.mem_of_mem_drop (List.mem_of_mem_take hy))) (by unfold maxLen; omega) (by omega) (N := ys.length + 1) (by omega) (fun s3 c3 hs3 => ?_)
                (refine wpH_free rfl rfl rfl (fun _ _ => ?_); go_step; go_step)
                refine wpH_nil ?_
                intro w8 hC
                replace H := hC.hs
                clear hC
                try clear C
                try clear Z
                try simp only [List.nil_append, List.cons_append, List.append_assoc, List.set_cons_succ, List.set_cons_zero] at H
                try clear w7
                have C := H.cells
                try simp only [cellsOf, apartOf, and_true] at C
                go_upto_region 19 with fail
                generalize hwb : World.setCell _ _ _ = wf
                have H9 := HS.eqW hwb (H.setTo (o := 2) (v := .slice s3 (ys.length + 1) c3) 3 rfl rfl)
                clear H C hwb
                have H := H9
                clear H9
                have htk : ((ys.flatMap gC).drop (i * 3)).take ((ys.length - i) * 3) = (ys.flatMap gC).drop (i * 3) := by
                  refine List.take_of_length_le ?_
                  rw [List.length_drop, flat_len gC_len]
                  omega
                have hzl : (ys.take i ++ ((⟨part, 0, T⟩ : G3) :: ys.drop i)).length = ys.length + 1 := by rw [List.length_append, List.length_cons, List.length_take, List.length_drop]; omega
                have hzf : (ys.take i ++ ((⟨part, 0, T⟩ : G3) :: ys.drop i)).flatMap gC = (ys.flatMap gC).take (i * 3) ++ (Value.int .i64 part :: Value.int .i64 0 :: Value.int .i64 T :: (ys.flatMap gC).drop (i * 3)) := by
                  rw [flat_take gC_len, flat_drop gC_len, List.flatMap_append, List.flatMap_cons]; rfl
                rw [htk] at H
                simp only [List.nil_append, List.append_assoc, List.set_cons_succ, List.set_cons_zero] at H
                rw [← hzf, ← hzl] at H
                have hzi : (ys.take i ++ ((⟨part, 0, T⟩ : G3) :: ys.drop i))[i]! = ⟨part, 0, T⟩ := by
                  have h0 : (ys.take i).length = i := by rw [List.length_take]; omega
                  rw [getElem!_pos _ _ (by rw [hzl]; omega), List.getElem_append_right (by omega)]
                  simp [h0]
                have hset : (ys.take i ++ ((⟨part, 0, T⟩ : G3) :: ys.drop i)).set i ⟨part, n, T⟩ = ys.take i ++ ((⟨part, n, T⟩ : G3) :: ys.drop i) := by
                  have h0 : (ys.take i).length = i := by rw [List.length_take]; omega
                  rw [List.set_append_right _ _ (by omega), h0, Nat.sub_self]; rfl
                have hmin : min (0 + n) 1048576 = n := by omega
                have HZ3 : Hid (NoteA part T n ys ((ys.take i ++ ((⟨part, 0, T⟩ : G3) :: ys.drop i)).set i ⟨part, min (0 + n) 1048576, T⟩) (min (0 + n) 1048576)) := by
                  rw [hmin, hset]
                  exact .fresh ys i hi HLO.out HGT.out (by omega)
                rw [← hzl]
                obtain ⟨zs0, hz0⟩ : ∃ zs0, zs0 = (ys.take i ++ ((⟨part, 0, T⟩ : G3) :: ys.drop i)) := ⟨_, rfl⟩
                rw [← hz0] at H HZ3 hzi hzl ⊢
                have HZ1 := Lib.hid (show i < zs0.length by rw [hzl]; omega)
                have HZ2 := Lib.hid hzi
                obtain ⟨l0, hl0⟩ : ∃ l0 : Int, l0 = 0 := ⟨_, rfl⟩
                obtain ⟨t0, ht0⟩ : ∃ t0, t0 = T := ⟨_, rfl⟩
                rw [← hl0, ← ht0] at HZ2
                have HZ3' : Hid (NoteA part T n ys (zs0.set i ⟨part, min (l0 + n) 1048576, t0⟩) (min (l0 + n) 1048576)) := by rw [hl0, ht0]; exact HZ3.out
                clear HZ3
                have HZ3 := HZ3'
                clear HZ3'
                have hl0b : 0 ≤ l0 ∧ l0 ≤ 1048576 := by omega
                have hzz : 0 < zs0.length := by omega
                clear hzl hzi hzf htk hset hmin hz0 hl0 ht0 hs1 hs2 hs3 HSX HSZ HSZ2 HNF hfull hfi
                skip
                try clear C
                try simp only [World.size_alloc, List.nil_append, List.cons_append, List.append_assoc] at H
                have C := H.cells
                try simp only [cellsOf, apartOf, and_true] at C
                have hrow := H.at 4 rfl
                obtain ⟨g, rfl, hg, hnd⟩ := ownsRow_ptr hrow (by omega)
                clear hrow
                obtain ⟨b', o', hbo, hb', hc⟩ := (H.rowLies 4 gC_len rfl rfl).at HZ1.out
                simp only [Option.some.injEq, Addr.mk.injEq, and_true] at hbo
                obtain ⟨rfl, rfl⟩ := hbo
                have hfz := World.ownsRow.frozenAt (H.at 4 rfl) (i * 3 + 1)
                rw [HZ2.out] at hc
                have c1 : wf.cell? ⟨g, i * 3 + 1, none⟩ = some (.int .i64 l0) := by simpa using hc 1 _ rfl
                have q1 : wrap64 (l0 + n) = l0 + n := IntWalk.wrap64_in _ (by omega)
                obtain ⟨lv, hlv⟩ : ∃ lv, lv = min (l0 + n) 1048576 := ⟨_, rfl⟩
                have q2 : (if l0 + n < 1048576 then l0 + n else 1048576) = lv := by rw [hlv]; omega
                have q3 : min 1048576 (l0 + n) = lv := by rw [hlv]; omega
                have HLV := Lib.hid hlv
                clear hc hlv hg
                have e1 : (i : Int) < zs0.length := by have := HZ1.out; omega
                go_upto_region 19 with fail
                go_region
                try simp only [q1, q2, q3]
                generalize hwb : (World.setCell _ _ _).drew = wa
                have H8 := HS.eqW hwb (H.rowSet 4 rfl (i * 3 + 1) (.int .i64 lv)).drew
                clear H C c1 hwb q1 q2 q3 hfz
                have H := H8
                clear H8
                rw [← flat_set gC_len zs0 i 1 ⟨part, lv, t0⟩ (.int .i64 lv) HZ1.out (by decide) (by rw [HZ2.out]; rfl)] at H
                simp only [List.nil_append, List.cons_append, List.append_assoc, List.set_cons_succ, List.set_cons_zero] at H
                have hlen2 : (zs0.set i ⟨part, lv, t0⟩).length = zs0.length := List.length_set
                obtain ⟨zs, hzs⟩ : ∃ zs, zs = zs0.set i ⟨part, lv, t0⟩ := ⟨_, rfl⟩
                have HR : NoteA part T n ys zs lv := by rw [hzs, HLV.out]; exact HZ3.out
                rw [← hzs] at H hlen2
                have hzi : zs[i]! = ⟨part, lv, t0⟩ := by rw [hzs, getElem!_pos _ i (by rw [List.length_set]; exact HZ1.out), List.getElem_set_self]
                have HNR := Lib.hid HR
                clear HR hzs
                rw [← hlen2] at H e1
                have HLN := Lib.hid hlen2
                obtain ⟨b', o', hbo, hb', hc⟩ := (H.rowLies 4 gC_len rfl rfl).at (show i < zs.length by have := HZ1.out; omega)
                rw [hzi] at hc
                simp only [Option.some.injEq, Addr.mk.injEq, and_true] at hbo
                obtain ⟨rfl, rfl⟩ := hbo
                have c1 : wa.cell? ⟨g, i * 3 + 1, none⟩ = some (.int .i64 lv) := by simpa using hc 1 _ rfl
                clear hc hzi hlen2
                skip
                try clear C
                try simp only [World.size_alloc, List.nil_append, List.cons_append, List.append_assoc] at H
                have C := H.cells
                try simp only [cellsOf, apartOf, and_true] at C
                obtain ⟨n1, n2⟩ := H.rowApart 4 1 rfl rfl (by decide)
                obtain ⟨n3, n4⟩ := H.rowApart 4 3 rfl rfl (by decide)
                go_upto_region 20 with fail
                go_region
                generalize hwb : (World.setCell _ _ _).drew = wb
                have H9 := HS.eqW hwb (H.putAll (i := 1) rfl (vs := [.int .i64 P, .int .i64 L, .slice (some ⟨g, 0, none⟩) zs.length c3]) rfl rfl).drew
                clear H C c1 hwb n1 n2 n3 n4
                have H := H9
                clear H9
                simp only [List.nil_append, List.cons_append, List.append_assoc, List.set_cons_succ, List.set_cons_zero] at H
                skip
                try clear C
                try simp only [World.size_alloc, List.nil_append, List.cons_append, List.append_assoc] at H
                have C := H.cells
                try simp only [cellsOf, apartOf, and_true] at C
                repeat go_step
                refine bodyPost_ret (by simp [results, Try.results10, go_sem, C]; try rfl) rfl ?_
                exact .inr ⟨HER.out, zs, lv, HNR.out, H.givesS 4 (mk := fun v => .tuple #[vG P L v, .bool (decide (L ≤ lv)), .int .i64 0]) rfl⟩
        · have hie : i = ys.length := by omega
          have HGT : Hid (∀ k, i ≤ k → k < ys.length → part < ys[k]!.p) := fun k h1 h2 => by omega
          have hbeq : ((i : Int) == (ys.length : Int)) = true := by simp [hie]
          clear hie
          skip
          skip
          have hrow := H.at 2 rfl
          rcases hrow.2 with ⟨h2, h3⟩ | ⟨g, cap, cur, hv, hg, r⟩
          · obtain ⟨rfl, -, -⟩ := Value.slice.inj h2
            clear hrow h2 h3
            have HNF : Hid (¬ ∃ x ∈ ys, x.p = part) := fun ⟨x, hx, hp⟩ => by
              obtain ⟨m, hm, he⟩ := List.mem_iff_getElem.1 hx
              have hm' : ys[m]! = x := by rw [getElem!_pos ys m hm, he]
              by_cases hmi : m < i
              · have := HLO.out m hmi; rw [hm'] at this; omega
              · have := HGT.out m (by omega) hm; rw [hm'] at this; omega
            by_cases hfull : 64 ≤ ys.length
            · have he : ERR = 16 := HE16.out HAX.out ⟨hfull, HNF.out⟩
              subst he
              clear HE46 HE16 HE00
              have hfi : (64 : Int) ≤ ys.length := by omega
              skip
              go_wp2_with fail
              generalize hwb : ((wr.setCell _ _).setCell _ _).setCell _ _ = w9
              replace H := HS.eqW hwb (H.putAll (i := 1) rfl (vs := [.int .i64 0, .int .i64 0, .slice none 0 0]) rfl rfl)
              simp only [List.nil_append, List.cons_append, List.append_assoc, List.set_cons_succ, List.set_cons_zero] at H
              clear hwb
              try clear C
              try clear wr
              have C := H.cells
              try simp only [cellsOf, apartOf, and_true] at C
              refine bodyPost_ret (by simp [results, Try.results10, go_sem, C]; try rfl) rfl ?_
              first | exact .inl ⟨by decide, rfl, H.done⟩ | exact ⟨rfl, H.done⟩
            · have HER := Lib.hid (HE00.out HAX.out (fun h => hfull h.1))
              clear HE46 HE16 HE00
              have hfi : ¬ (64 : Int) ≤ ys.length := by omega
              have hil2 : (i : Int) ≤ ys.length := by omega
              have hdd : ys.length ≤ d := (World.ownsRow.lenCap (H.at 2 rfl))
              have hid : (i : Int) ≤ d := by omega
              skip
              go_upto_region 18 with fail
              replace H := H.nilRow 33 3
              try simp only [List.nil_append, List.cons_append] at H
              refine wp_region_hz (by kernel_rfl) [0, 1, 2, 3, 4, 5, 6, 7, 8, 9, 10, 11, 12, 13, 14, 15] (by kernel_rfl) (by kernel_rfl) (by kernel_rfl) rfl (fun _ => False) (H) ?_
              clear H; intro w10 H hz0
              try clear C
              try simp only [World.size_alloc, List.nil_append, List.cons_append, List.append_assoc] at H hz0 ⊢
              clear hz0
              try clear wr
              have C := H.cells
              try simp only [cellsOf, apartOf, and_true] at C
              have Z := H.zs
              try simp only [ltsOf, and_true] at Z
              simp only [List.filterMap_cons, List.filterMap_nil, List.getElem?_toArray, List.getElem?_cons_zero, List.getElem?_cons_succ]
              have hsz := (src_pre (H.at 2 rfl) hi).2
              have hsz2 := (src_part (H.at 2 rfl) hi (Nat.le_refl _)).2
              have HSZ := Lib.hid hsz
              have HSZ2 := Lib.hid hsz2
              clear hsz hsz2
              obtain ⟨sx, hsx⟩ : ∃ sx : Option Addr, sx = (if d = i then (none : Option Addr) else (none : Option Addr).map (·.add (i * 3))) := ⟨_, rfl⟩
              have HSX := Lib.hid hsx
              clear hsx
              (refine wpH_free rfl rfl rfl (fun _ _ => ?_); go_step; go_step)
              (refine wpH_load rfl rfl rfl (by simp [Stay, OneD, NoD, *]) (by simp [*]) (fun _ _ => ?_); go_step; go_step)
              (refine wpH_free rfl rfl rfl (fun _ _ => ?_); go_step; go_step)
              (refine wpH_yield rfl rfl (.slice (none : Option Addr) i d) (fun w _ => by go_simp) ?_; go_simp)
              refine wpH_append rfl (.const (.slice none 0 0)) (.tmp 96) 22 rfl elemG 4 rfl rfl (by simp [Value.ownBlock]) (fun _ h => h.1) rfl (fun w hc => (src_pre (hc.hs.at 2 rfl) hi).1) HSZ.out (fun y hy => gC_one ys y (List.mem_of_mem_take hy)) (by unfold maxLen; omega) (by omega) (N := i) (Nat.zero_add i) (fun s1 c1 hs1 => ?_)
              (refine wpH_free rfl rfl rfl (fun _ _ => ?_); go_step; go_step)
              (refine wpH_free rfl rfl rfl (fun _ _ => ?_); go_step; go_step)
              (refine wpH_free rfl rfl rfl (fun _ _ => ?_); go_step; go_step)
              (refine wpH_lit rfl rfl #[.int .i64 part, .int .i64 0, .int .i64 T]   33 1 (fun w => by kernel_rfl) (fun bL hbL nbL _ _ => ?_); go_simp; go_step)
              refine wpH_append rfl (.tmp 97) (.tmp 101) 22 rfl elemG 4 rfl rfl hs1 (fun _ h => h.1) rfl (fun w hc => src_lit (Fl.at _ _ _) hc) rfl (fun y hy => gC_one [⟨part, 0, T⟩] y (by simpa [gC] using hy)) (by unfold maxLen; omega) (by omega) (N := i + 1) rfl (fun s2 c2 hs2 => ?_)
              (refine wpH_free rfl rfl rfl (fun _ _ => ?_); go_step; go_step)
              (refine wpH_load rfl rfl rfl (by simp [Stay, OneD, NoD, *]) (by simp [*]) (fun _ _ => ?_); go_step; go_step)
              (refine wpH_free rfl rfl rfl (fun _ _ => ?_); go_step; go_step)
              (refine wpH_yield rfl rfl (.slice sx (ys.length - i) (d - i) ) (fun w _ => by  (rw [HSX.out]; go_simp)) ?_; go_simp)
              refine wpH_append rfl (.tmp 102) (.tmp 106) 22 rfl elemG 4 rfl rfl hs2 (fun _ h => h.1) rfl (fun w hc => by rw [HSX.out]; exact (src_part (hc.hs.at 2 rfl) hi (Nat.le_refl _)).1) HSZ2.out (fun y hy => gC_one ys y (List.mem_of_mem_drop (List.mem_of_mem_take hy))) (by unfold maxLen; omega) (by omega) (N := ys.length + 1) (by omega) (fun s3 c3 hs3 => ?_)
              (refine wpH_free rfl rfl rfl (fun _ _ => ?_); go_step; go_step)
              refine wpH_nil ?_
              intro w11 hC
              replace H := hC.hs
              clear hC
              try clear C
              try clear Z
              try simp only [List.nil_append, List.cons_append, List.append_assoc, List.set_cons_succ, List.set_cons_zero] at H
              try clear w10
              have C := H.cells
              try simp only [cellsOf, apartOf, and_true] at C
              go_upto_region 19 with fail
              generalize hwb : World.setCell _ _ _ = wf
              have H9 := HS.eqW hwb (H.setTo (o := 2) (v := .slice s3 (ys.length + 1) c3) 3 rfl rfl)
              clear H C hwb
              have H := H9
              clear H9
              have htk : ((ys.flatMap gC).drop (i * 3)).take ((ys.length - i) * 3) = (ys.flatMap gC).drop (i * 3) := by
                refine List.take_of_length_le ?_
                rw [List.length_drop, flat_len gC_len]
                omega
              have hzl : (ys.take i ++ ((⟨part, 0, T⟩ : G3) :: ys.drop i)).length = ys.length + 1 := by rw [List.length_append, List.length_cons, List.length_take, List.length_drop]; omega
              have hzf : (ys.take i ++ ((⟨part, 0, T⟩ : G3) :: ys.drop i)).flatMap gC = (ys.flatMap gC).take (i * 3) ++ (Value.int .i64 part :: Value.int .i64 0 :: Value.int .i64 T :: (ys.flatMap gC).drop (i * 3)) := by
                rw [flat_take gC_len, flat_drop gC_len, List.flatMap_append, List.flatMap_cons]; rfl
              rw [htk] at H
              simp only [List.nil_append, List.append_assoc, List.set_cons_succ, List.set_cons_zero] at H
              rw [← hzf, ← hzl] at H
              have hzi : (ys.take i ++ ((⟨part, 0, T⟩ : G3) :: ys.drop i))[i]! = ⟨part, 0, T⟩ := by
                have h0 : (ys.take i).length = i := by rw [List.length_take]; omega
                rw [getElem!_pos _ _ (by rw [hzl]; omega), List.getElem_append_right (by omega)]
                simp [h0]
              have hset : (ys.take i ++ ((⟨part, 0, T⟩ : G3) :: ys.drop i)).set i ⟨part, n, T⟩ = ys.take i ++ ((⟨part, n, T⟩ : G3) :: ys.drop i) := by
                have h0 : (ys.take i).length = i := by rw [List.length_take]; omega
                rw [List.set_append_right _ _ (by omega), h0, Nat.sub_self]; rfl
              have hmin : min (0 + n) 1048576 = n := by omega
              have HZ3 : Hid (NoteA part T n ys ((ys.take i ++ ((⟨part, 0, T⟩ : G3) :: ys.drop i)).set i ⟨part, min (0 + n) 1048576, T⟩) (min (0 + n) 1048576)) := by
                rw [hmin, hset]
                exact .fresh ys i hi HLO.out HGT.out (by omega)
              rw [← hzl]
              obtain ⟨zs0, hz0⟩ : ∃ zs0, zs0 = (ys.take i ++ ((⟨part, 0, T⟩ : G3) :: ys.drop i)) := ⟨_, rfl⟩
              rw [← hz0] at H HZ3 hzi hzl ⊢
              have HZ1 := Lib.hid (show i < zs0.length by rw [hzl]; omega)
              have HZ2 := Lib.hid hzi
              obtain ⟨l0, hl0⟩ : ∃ l0 : Int, l0 = 0 := ⟨_, rfl⟩
              obtain ⟨t0, ht0⟩ : ∃ t0, t0 = T := ⟨_, rfl⟩
              rw [← hl0, ← ht0] at HZ2
              have HZ3' : Hid (NoteA part T n ys (zs0.set i ⟨part, min (l0 + n) 1048576, t0⟩) (min (l0 + n) 1048576)) := by rw [hl0, ht0]; exact HZ3.out
              clear HZ3
              have HZ3 := HZ3'
              clear HZ3'
              have hl0b : 0 ≤ l0 ∧ l0 ≤ 1048576 := by omega
              have hzz : 0 < zs0.length := by omega
              clear hzl hzi hzf htk hset hmin hz0 hl0 ht0 hs1 hs2 hs3 HSX HSZ HSZ2 HNF hfull hfi
              skip
              try clear C
              try simp only [World.size_alloc, List.nil_append, List.cons_append, List.append_assoc] at H
              have C := H.cells
              try simp only [cellsOf, apartOf, and_true] at C
              have hrow := H.at 4 rfl
              obtain ⟨g, rfl, hg, hnd⟩ := ownsRow_ptr hrow (by omega)
              clear hrow
              obtain ⟨b', o', hbo, hb', hc⟩ := (H.rowLies 4 gC_len rfl rfl).at HZ1.out
              simp only [Option.some.injEq, Addr.mk.injEq, and_true] at hbo
              obtain ⟨rfl, rfl⟩ := hbo
              have hfz := World.ownsRow.frozenAt (H.at 4 rfl) (i * 3 + 1)
              rw [HZ2.out] at hc
              have c1 : wf.cell? ⟨g, i * 3 + 1, none⟩ = some (.int .i64 l0) := by simpa using hc 1 _ rfl
              have q1 : wrap64 (l0 + n) = l0 + n := IntWalk.wrap64_in _ (by omega)
              obtain ⟨lv, hlv⟩ : ∃ lv, lv = min (l0 + n) 1048576 := ⟨_, rfl⟩
              have q2 : (if l0 + n < 1048576 then l0 + n else 1048576) = lv := by rw [hlv]; omega
              have q3 : min 1048576 (l0 + n) = lv := by rw [hlv]; omega
              have HLV := Lib.hid hlv
              clear hc hlv hg
              have e1 : (i : Int) < zs0.length := by have := HZ1.out; omega
              go_upto_region 19 with fail
              go_region
              try simp only [q1, q2, q3]
              generalize hwb : (World.setCell _ _ _).drew = wa
              have H8 := HS.eqW hwb (H.rowSet 4 rfl (i * 3 + 1) (.int .i64 lv)).drew
              clear H C c1 hwb q1 q2 q3 hfz
              have H := H8
              clear H8
              rw [← flat_set gC_len zs0 i 1 ⟨part, lv, t0⟩ (.int .i64 lv) HZ1.out (by decide) (by rw [HZ2.out]; rfl)] at H
              simp only [List.nil_append, List.cons_append, List.append_assoc, List.set_cons_succ, List.set_cons_zero] at H
              have hlen2 : (zs0.set i ⟨part, lv, t0⟩).length = zs0.length := List.length_set
              obtain ⟨zs, hzs⟩ : ∃ zs, zs = zs0.set i ⟨part, lv, t0⟩ := ⟨_, rfl⟩
              have HR : NoteA part T n ys zs lv := by rw [hzs, HLV.out]; exact HZ3.out
              rw [← hzs] at H hlen2
              have hzi : zs[i]! = ⟨part, lv, t0⟩ := by rw [hzs, getElem!_pos _ i (by rw [List.length_set]; exact HZ1.out), List.getElem_set_self]
              have HNR := Lib.hid HR
              clear HR hzs
              rw [← hlen2] at H e1
              have HLN := Lib.hid hlen2
              obtain ⟨b', o', hbo, hb', hc⟩ := (H.rowLies 4 gC_len rfl rfl).at (show i < zs.length by have := HZ1.out; omega)
              rw [hzi] at hc
              simp only [Option.some.injEq, Addr.mk.injEq, and_true] at hbo
              obtain ⟨rfl, rfl⟩ := hbo
              have c1 : wa.cell? ⟨g, i * 3 + 1, none⟩ = some (.int .i64 lv) := by simpa using hc 1 _ rfl
              clear hc hzi hlen2
              skip
              try clear C
              try simp only [World.size_alloc, List.nil_append, List.cons_append, List.append_assoc] at H
              have C := H.cells
              try simp only [cellsOf, apartOf, and_true] at C
              obtain ⟨n1, n2⟩ := H.rowApart 4 1 rfl rfl (by decide)
              obtain ⟨n3, n4⟩ := H.rowApart 4 3 rfl rfl (by decide)
              go_upto_region 20 with fail
              go_region
              generalize hwb : (World.setCell _ _ _).drew = wb
              have H9 := HS.eqW hwb (H.putAll (i := 1) rfl (vs := [.int .i64 P, .int .i64 L, .slice (some ⟨g, 0, none⟩) zs.length c3]) rfl rfl).drew
              clear H C c1 hwb n1 n2 n3 n4
              have H := H9
              clear H9
              simp only [List.nil_append, List.cons_append, List.append_assoc, List.set_cons_succ, List.set_cons_zero] at H
              skip
              try clear C
              try simp only [World.size_alloc, List.nil_append, List.cons_append, List.append_assoc] at H
              have C := H.cells
              try simp only [cellsOf, apartOf, and_true] at C
              repeat go_step
              refine bodyPost_ret (by simp [results, Try.results10, go_sem, C]; try rfl) rfl ?_
              exact .inr ⟨HER.out, zs, lv, HNR.out, H.givesS 4 (mk := fun v => .tuple #[vG P L v, .bool (decide (L ≤ lv)), .int .i64 0]) rfl⟩
          · obtain ⟨rfl, -, rfl⟩ := Value.slice.inj hv
            clear hrow r hv hg
            have HNF : Hid (¬ ∃ x ∈ ys, x.p = part) := fun ⟨x, hx, hp⟩ => by
              obtain ⟨m, hm, he⟩ := List.mem_iff_getElem.1 hx
              have hm' : ys[m]! = x := by rw [getElem!_pos ys m hm, he]
              by_cases hmi : m < i
              · have := HLO.out m hmi; rw [hm'] at this; omega
              · have := HGT.out m (by omega) hm; rw [hm'] at this; omega
            by_cases hfull : 64 ≤ ys.length
            · have he : ERR = 16 := HE16.out HAX.out ⟨hfull, HNF.out⟩
              subst he
              clear HE46 HE16 HE00
              have hfi : (64 : Int) ≤ ys.length := by omega
              skip
              go_wp2_with fail
              generalize hwb : ((wr.setCell _ _).setCell _ _).setCell _ _ = w12
              replace H := HS.eqW hwb (H.putAll (i := 1) rfl (vs := [.int .i64 0, .int .i64 0, .slice none 0 0]) rfl rfl)
              simp only [List.nil_append, List.cons_append, List.append_assoc, List.set_cons_succ, List.set_cons_zero] at H
              clear hwb
              try clear C
              try clear wr
              have C := H.cells
              try simp only [cellsOf, apartOf, and_true] at C
              refine bodyPost_ret (by simp [results, Try.results10, go_sem, C]; try rfl) rfl ?_
              first | exact .inl ⟨by decide, rfl, H.done⟩ | exact ⟨rfl, H.done⟩
            · have HER := Lib.hid (HE00.out HAX.out (fun h => hfull h.1))
              clear HE46 HE16 HE00
              have hfi : ¬ (64 : Int) ≤ ys.length := by omega
              have hil2 : (i : Int) ≤ ys.length := by omega
              have hdd : ys.length ≤ d := (World.ownsRow.lenCap (H.at 2 rfl))
              have hid : (i : Int) ≤ d := by omega
              skip
              go_upto_region 18 with fail
              replace H := H.nilRow 33 3
              try simp only [List.nil_append, List.cons_append] at H
              refine wp_region_hz (by kernel_rfl) [0, 1, 2, 3, 4, 5, 6, 7, 8, 9, 10, 11, 12, 13, 14, 15] (by kernel_rfl) (by kernel_rfl) (by kernel_rfl) rfl (fun _ => False) (H) ?_
              clear H; intro w13 H hz0
              try clear C
              try simp only [World.size_alloc, List.nil_append, List.cons_append, List.append_assoc] at H hz0 ⊢
              clear hz0
              try clear wr
              have C := H.cells
              try simp only [cellsOf, apartOf, and_true] at C
              have Z := H.zs
              try simp only [ltsOf, and_true] at Z
              simp only [List.filterMap_cons, List.filterMap_nil, List.getElem?_toArray, List.getElem?_cons_zero, List.getElem?_cons_succ]
              have hsz := (src_pre (H.at 2 rfl) hi).2
              have hsz2 := (src_part (H.at 2 rfl) hi (Nat.le_refl _)).2
              have HSZ := Lib.hid hsz
              have HSZ2 := Lib.hid hsz2
              clear hsz hsz2
              obtain ⟨sx, hsx⟩ : ∃ sx : Option Addr, sx = (if d = i then (some ⟨g, 0, none⟩ : Option Addr) else (some ⟨g, 0, none⟩ : Option Addr).map (·.add (i * 3))) := ⟨_, rfl⟩
              have HSX := Lib.hid hsx
              clear hsx
              (refine wpH_free rfl rfl rfl (fun _ _ => ?_); go_step; go_step)
              (refine wpH_load rfl rfl rfl (by simp [Stay, OneD, NoD, *]) (by simp [*]) (fun _ _ => ?_); go_step; go_step)
              (refine wpH_free rfl rfl rfl (fun _ _ => ?_); go_step; go_step)
              (refine wpH_yield rfl rfl (.slice (some ⟨g, 0, none⟩ : Option Addr) i d) (fun w _ => by go_simp) ?_; go_simp)
              refine wpH_append rfl (.const (.slice none 0 0)) (.tmp 96) 22 rfl elemG 4 rfl rfl (by simp [Value.ownBlock]) (fun _ h => h.1) rfl (fun w hc => (src_pre (hc.hs.at 2 rfl) hi).1) HSZ.out (fun y hy => gC_one ys y (List.mem_of_mem_take hy)) (by unfold maxLen; omega) (by omega) (N := i) (Nat.zero_add i) (fun s1 c1 hs1 => ?_)
              (refine wpH_free rfl rfl rfl (fun _ _ => ?_); go_step; go_step)
              (refine wpH_free rfl rfl rfl (fun _ _ => ?_); go_step; go_step)
              (refine wpH_free rfl rfl rfl (fun _ _ => ?_); go_step; go_step)
              (refine wpH_lit rfl rfl #[.int .i64 part, .int .i64 0, .int .i64 T]   33 1 (fun w => by kernel_rfl) (fun bL hbL nbL _ _ => ?_); go_simp; go_step)
              refine wpH_append rfl (.tmp 97) (.tmp 101) 22 rfl elemG 4 rfl rfl hs1 (fun _ h => h.1) rfl (fun w hc => src_lit (Fl.at _ _ _) hc) rfl (fun y hy => gC_one [⟨part, 0, T⟩] y (by simpa [gC] using hy)) (by unfold maxLen; omega) (by omega) (N := i + 1) rfl (fun s2 c2 hs2 => ?_)
              (refine wpH_free rfl rfl rfl (fun _ _ => ?_); go_step; go_step)
              (refine wpH_load rfl rfl rfl (by simp [Stay, OneD, NoD, *]) (by simp [*]) (fun _ _ => ?_); go_step; go_step)
              (refine wpH_free rfl rfl rfl (fun _ _ => ?_); go_step; go_step)
              (refine wpH_yield rfl rfl (.slice sx (ys.length - i) (d - i) ) (fun w _ => by  (rw [HSX.out]; go_simp)) ?_; go_simp)
              refine wpH_append rfl (.tmp 102) (.tmp 106) 22 rfl elemG 4 rfl rfl hs2 (fun _ h => h.1) rfl (fun w hc => by rw [HSX.out]; exact (src_part (hc.hs.at 2 rfl) hi (Nat.le_refl _)).1) HSZ2.out (fun y hy => gC_one ys y (List.mem_of_mem_drop (List.mem_of_mem_take hy))) (by unfold maxLen; omega) (by omega) (N := ys.length + 1) (by omega) (fun s3 c3 hs3 => ?_)
              (refine wpH_free rfl rfl rfl (fun _ _ => ?_); go_step; go_step)
              refine wpH_nil ?_
              intro w14 hC
              replace H := hC.hs
              clear hC
              try clear C
              try clear Z
              try simp only [List.nil_append, List.cons_append, List.append_assoc, List.set_cons_succ, List.set_cons_zero] at H
              try clear w13
              have C := H.cells
              try simp only [cellsOf, apartOf, and_true] at C
              go_upto_region 19 with fail
              generalize hwb : World.setCell _ _ _ = wf
              have H9 := HS.eqW hwb (H.setTo (o := 2) (v := .slice s3 (ys.length + 1) c3) 3 rfl rfl)
              clear H C hwb
              have H := H9
              clear H9
              have htk : ((ys.flatMap gC).drop (i * 3)).take ((ys.length - i) * 3) = (ys.flatMap gC).drop (i * 3) := by
                refine List.take_of_length_le ?_
                rw [List.length_drop, flat_len gC_len]
                omega
              have hzl : (ys.take i ++ ((⟨part, 0, T⟩ : G3) :: ys.drop i)).length = ys.length + 1 := by rw [List.length_append, List.length_cons, List.length_take, List.length_drop]; omega
              have hzf : (ys.take i ++ ((⟨part, 0, T⟩ : G3) :: ys.drop i)).flatMap gC = (ys.flatMap gC).take (i * 3) ++ (Value.int .i64 part :: Value.int .i64 0 :: Value.int .i64 T :: (ys.flatMap gC).drop (i * 3)) := by
                rw [flat_take gC_len, flat_drop gC_len, List.flatMap_append, List.flatMap_cons]; rfl
              rw [htk] at H
              simp only [List.nil_append, List.append_assoc, List.set_cons_succ, List.set_cons_zero] at H
              rw [← hzf, ← hzl] at H
              have hzi : (ys.take i ++ ((⟨part, 0, T⟩ : G3) :: ys.drop i))[i]! = ⟨part, 0, T⟩ := by
                have h0 : (ys.take i).length = i := by rw [List.length_take]; omega
                rw [getElem!_pos _ _ (by rw [hzl]; omega), List.getElem_append_right (by omega)]
                simp [h0]
              have hset : (ys.take i ++ ((⟨part, 0, T⟩ : G3) :: ys.drop i)).set i ⟨part, n, T⟩ = ys.take i ++ ((⟨part, n, T⟩ : G3) :: ys.drop i) := by
                have h0 : (ys.take i).length = i := by rw [List.length_take]; omega
                rw [List.set_append_right _ _ (by omega), h0, Nat.sub_self]; rfl
              have hmin : min (0 + n) 1048576 = n := by omega
              have HZ3 : Hid (NoteA part T n ys ((ys.take i ++ ((⟨part, 0, T⟩ : G3) :: ys.drop i)).set i ⟨part, min (0 + n) 1048576, T⟩) (min (0 + n) 1048576)) := by
                rw [hmin, hset]
                exact .fresh ys i hi HLO.out HGT.out (by omega)
              rw [← hzl]
              obtain ⟨zs0, hz0⟩ : ∃ zs0, zs0 = (ys.take i ++ ((⟨part, 0, T⟩ : G3) :: ys.drop i)) := ⟨_, rfl⟩
              rw [← hz0] at H HZ3 hzi hzl ⊢
              have HZ1 := Lib.hid (show i < zs0.length by rw [hzl]; omega)
              have HZ2 := Lib.hid hzi
              obtain ⟨l0, hl0⟩ : ∃ l0 : Int, l0 = 0 := ⟨_, rfl⟩
              obtain ⟨t0, ht0⟩ : ∃ t0, t0 = T := ⟨_, rfl⟩
              rw [← hl0, ← ht0] at HZ2
              have HZ3' : Hid (NoteA part T n ys (zs0.set i ⟨part, min (l0 + n) 1048576, t0⟩) (min (l0 + n) 1048576)) := by rw [hl0, ht0]; exact HZ3.out
              clear HZ3
              have HZ3 := HZ3'
              clear HZ3'
              have hl0b : 0 ≤ l0 ∧ l0 ≤ 1048576 := by omega
              have hzz : 0 < zs0.length := by omega
              clear hzl hzi hzf htk hset hmin hz0 hl0 ht0 hs1 hs2 hs3 HSX HSZ HSZ2 HNF hfull hfi
              skip
              try clear C
              try simp only [World.size_alloc, List.nil_append, List.cons_append, List.append_assoc] at H
              have C := H.cells
              try simp only [cellsOf, apartOf, and_true] at C
              have hrow := H.at 4 rfl
              obtain ⟨g, rfl, hg, hnd⟩ := ownsRow_ptr hrow (by omega)
              clear hrow
              obtain ⟨b', o', hbo, hb', hc⟩ := (H.rowLies 4 gC_len rfl rfl).at HZ1.out
              simp only [Option.some.injEq, Addr.mk.injEq, and_true] at hbo
              obtain ⟨rfl, rfl⟩ := hbo
              have hfz := World.ownsRow.frozenAt (H.at 4 rfl) (i * 3 + 1)
              rw [HZ2.out] at hc
              have c1 : wf.cell? ⟨g, i * 3 + 1, none⟩ = some (.int .i64 l0) := by simpa using hc 1 _ rfl
              have q1 : wrap64 (l0 + n) = l0 + n := IntWalk.wrap64_in _ (by omega)
              obtain ⟨lv, hlv⟩ : ∃ lv, lv = min (l0 + n) 1048576 := ⟨_, rfl⟩
              have q2 : (if l0 + n < 1048576 then l0 + n else 1048576) = lv := by rw [hlv]; omega
              have q3 : min 1048576 (l0 + n) = lv := by rw [hlv]; omega
              have HLV := Lib.hid hlv
              clear hc hlv hg
              have e1 : (i : Int) < zs0.length := by have := HZ1.out; omega
              go_upto_region 19 with fail
              go_region
              try simp only [q1, q2, q3]
              generalize hwb : (World.setCell _ _ _).drew = wa
              have H8 := HS.eqW hwb (H.rowSet 4 rfl (i * 3 + 1) (.int .i64 lv)).drew
              clear H C c1 hwb q1 q2 q3 hfz
              have H := H8
              clear H8
              rw [← flat_set gC_len zs0 i 1 ⟨part, lv, t0⟩ (.int .i64 lv) HZ1.out (by decide) (by rw [HZ2.out]; rfl)] at H
              simp only [List.nil_append, List.cons_append, List.append_assoc, List.set_cons_succ, List.set_cons_zero] at H
              have hlen2 : (zs0.set i ⟨part, lv, t0⟩).length = zs0.length := List.length_set
              obtain ⟨zs, hzs⟩ : ∃ zs, zs = zs0.set i ⟨part, lv, t0⟩ := ⟨_, rfl⟩
              have HR : NoteA part T n ys zs lv := by rw [hzs, HLV.out]; exact HZ3.out
              rw [← hzs] at H hlen2
              have hzi : zs[i]! = ⟨part, lv, t0⟩ := by rw [hzs, getElem!_pos _ i (by rw [List.length_set]; exact HZ1.out), List.getElem_set_self]
              have HNR := Lib.hid HR
              clear HR hzs
              rw [← hlen2] at H e1
              have HLN := Lib.hid hlen2
              obtain ⟨b', o', hbo, hb', hc⟩ := (H.rowLies 4 gC_len rfl rfl).at (show i < zs.length by have := HZ1.out; omega)
              rw [hzi] at hc
              simp only [Option.some.injEq, Addr.mk.injEq, and_true] at hbo
              obtain ⟨rfl, rfl⟩ := hbo
              have c1 : wa.cell? ⟨g, i * 3 + 1, none⟩ = some (.int .i64 lv) := by simpa using hc 1 _ rfl
              clear hc hzi hlen2
              skip
              try clear C
              try simp only [World.size_alloc, List.nil_append, List.cons_append, List.append_assoc] at H
              have C := H.cells
              try simp only [cellsOf, apartOf, and_true] at C
              obtain ⟨n1, n2⟩ := H.rowApart 4 1 rfl rfl (by decide)
              obtain ⟨n3, n4⟩ := H.rowApart 4 3 rfl rfl (by decide)
              go_upto_region 20 with fail
              go_region
              generalize hwb : (World.setCell _ _ _).drew = wb
              have H9 := HS.eqW hwb (H.putAll (i := 1) rfl (vs := [.int .i64 P, .int .i64 L, .slice (some ⟨g, 0, none⟩) zs.length c3]) rfl rfl).drew
              clear H C c1 hwb n1 n2 n3 n4
              have H := H9
              clear H9
              simp only [List.nil_append, List.cons_append, List.append_assoc, List.set_cons_succ, List.set_cons_zero] at H
              skip
              try clear C
              try simp only [World.size_alloc, List.nil_append, List.cons_append, List.append_assoc] at H
              have C := H.cells
              try simp only [cellsOf, apartOf, and_true] at C
              repeat go_step
              refine bodyPost_ret (by simp [results, Try.results10, go_sem, C]; try rfl) rfl ?_
              exact .inr ⟨HER.out, zs, lv, HNR.out, H.givesS 4 (mk := fun v => .tuple #[vG P L v, .bool (decide (L ≤ lv)), .int .i64 0]) rfl⟩
end Go.Proofs.Ytdcieajdgmopkaa
