/- Plan (chapter 39): what rows and ranks save, the best rows (the specification). -/
import Derived.Test.YtdhnpjgnnfgklaaPlK
namespace Go.Proofs.Ytdhnpjgnnfgklaa
set_option linter.unusedSimpArgs false
set_option linter.unusedVariables false
open Go.RowKit
set_option maxRecDepth 100000
attribute [local irreducible] wpX wpF Calls
attribute [local go_sem] run_mkMapG

theorem infoI1 : (Try.prog.info? 3).map (fun i => (i.zero, i.size, i.bytes)) = some (some (.int .i64 0), 1, 8) := by kernel_rfl
theorem elemI1 : Elem Try.prog 22 3 (.int .i64 0) 1 8 := Elem.mk' Try.underlying22 infoI1 rfl (by decide)
set_option maxHeartbeats 8000000 in
theorem rworth_any {l : List Nd} (hok : LossOk l) {sa sb sc : Option Addr} (c d e : Nat) {rows : List Int} {rs : List P6} (hr : rows.length ≤ 100000) (hs : rs.length ≤ 100000) (w : World) (hl : Lies w w.heap.size sa 7 l.length (fun j => ndC l[j]!))
    (hlr : Lies w w.heap.size sb 1 rows.length (fun j => iC rows[j]!)) (hls : Lies w w.heap.size sc 6 rs.length (fun j => pC rs[j]!)) :
    Calls Try.prog 21 #[.slice sa l.length c, .slice sb rows.length d, .slice sc rs.length e] w (Gives (.int .i64 (worthP l rows rs)) w) := by
  have HL := Lib.hid hl
  have HLR := Lib.hid hlr
  have HLS := Lib.hid hls
  have hx := hok.1
  have HOK := Lib.hid hok
  clear hl hlr hls hok
  go_enter Try.func21, Try.ntmps21
  have H := HS.start NoD w
  go_wp2_with fail
  go_loopw [7, 15] (fun ss j wr => ∃ (s : Int) (k : Nat), ss = .int .i64 s ∧ j = .int .i64 k ∧ k ≤ l.length ∧ Hid (s = wk l rows rs k) ∧ HS NoD w [] wr) (fun _ j _ => l.length - (intOf j).toNat)
  case atStart => exact ⟨0, 0, rfl, rfl, Nat.zero_le _, (show Hid _ from rfl), H⟩
  case round =>
    clear H
    obtain ⟨s, k, rfl, rfl, hk, HS0, H⟩ := hrel
    skip
    by_cases hlt : k < l.length
    · have hki : (k : Int) < l.length := by omega
      have hsb : 0 ≤ s ∧ s ≤ 21990232555520 := by have h1 := wk_bound HOK.out rows rs k hk; rw [← HS0.out] at h1; omega
      obtain ⟨b, o, rfl, hb, hc⟩ := (H.lies HL.out).at hlt
      obtain ⟨q, hq⟩ : ∃ q, q = l[k]! := ⟨_, rfl⟩
      rw [← hq] at hc
      have HQ := Lib.hid hq
      clear hq
      have hq0 := HOK.out.2 _ (mem_bangN hlt)
      rw [← HQ.out] at hq0
      have HW := Lib.hid (wk_succ rows rs hlt)
      obtain ⟨⟨p0, p1, p2, p3, p4, p5⟩, pl⟩ := q
      have c0 : wr.cell? ⟨b, o + k * 7, none⟩ = some (.int .i64 p0) := hc 0 _ rfl
      have c1 : wr.cell? ⟨b, o + k * 7 + 1, none⟩ = some (.int .i64 p1) := hc 1 _ rfl
      have c2 : wr.cell? ⟨b, o + k * 7 + 2, none⟩ = some (.int .i64 p2) := hc 2 _ rfl
      have c3 : wr.cell? ⟨b, o + k * 7 + 3, none⟩ = some (.int .i64 p3) := hc 3 _ rfl
      have c4 : wr.cell? ⟨b, o + k * 7 + 4, none⟩ = some (.int .i64 p4) := hc 4 _ rfl
      have c5 : wr.cell? ⟨b, o + k * 7 + 5, none⟩ = some (.int .i64 p5) := hc 5 _ rfl
      have c6 : wr.cell? ⟨b, o + k * 7 + 6, none⟩ = some (.int .i64 pl) := hc 6 _ rfl
      clear hc hb
      dsimp only at hq0
      go_upto_region 5 with fail
      clear c0 c1 c2 c3 c4 c5 c6
      generalize hwb : wr.alloc _ = w1
      replace H := HS.eqW hwb H.alloc
      try simp only [World.size_alloc, List.nil_append, List.cons_append, List.append_assoc] at H
      clear hwb
      generalize wr.heap.size = bN at H ⊢
      try clear C
      try clear wr
      have C := H.cells
      try simp only [cellsOf, cellsM, apartOf, apartM, and_true] at C
      go_wp2_with fail
      refine (rin_any ⟨p0, p1, p2, p3, p4, p5⟩ e hs _ (H.liesUp HLS.out)).mono ?_
      rintro _ wc ⟨rfl, hb⟩
      replace H := H.below hb
      clear hb
      skip
      try clear C
      try simp only [World.size_alloc, List.nil_append, List.cons_append, List.append_assoc] at H
      have C := H.cells
      try simp only [cellsOf, cellsM, apartOf, apartM, and_true] at C
      generalize hin : inR rs ⟨p0, p1, p2, p3, p4, p5⟩ = t0
      have HIN := Lib.hid hin
      clear hin
      go_wp2_with fail
      go_loopw [10, 26] (fun tt j wr => ∃ (t : Bool) (m : Nat), tt = .bool t ∧ j = .int .i64 m ∧ m ≤ rows.length ∧ Hid (t = (t0 || (rows.take m).contains (k : Int))) ∧ HS NoD w [.blk bN #[.int .i64 p0, .int .i64 p1, .int .i64 p2, .int .i64 p3, .int .i64 p4, .int .i64 p5, .int .i64 pl] 41] wr) (fun _ j _ => rows.length - (intOf j).toNat)
      case atStart => exact ⟨t0, 0, rfl, rfl, Nat.zero_le _, (show Hid _ from by simp; trivial), H⟩
      case round =>
        clear H C
        obtain ⟨t, m, rfl, rfl, hm, HT, H⟩ := hrel
        skip
        try clear C
        try simp only [World.size_alloc, List.nil_append, List.cons_append, List.append_assoc] at H
        have C := H.cells
        try simp only [cellsOf, cellsM, apartOf, apartM, and_true] at C
        by_cases hlt2 : m < rows.length
        · have hmi : (m : Int) < rows.length := by omega
          obtain ⟨b2, o2, rfl, hb2, hc2⟩ := (H.lies HLR.out).at hlt2
          obtain ⟨g, hg⟩ : ∃ g, g = rows[m]! := ⟨_, rfl⟩
          have HG := Lib.hid hg
          rw [← hg] at hc2
          have d0 : wr.cell? ⟨b2, o2 + m * 1, none⟩ = some (.int .i64 g) := hc2 0 _ rfl
          rw [show o2 + m * 1 = o2 + m by omega] at d0
          clear hc2 hg hb2
          have HTK := Lib.hid (show (rows.take (m + 1)).contains (k : Int) = ((rows.take m).contains (k : Int) || decide (g = (k : Int))) from by
            rw [HG.out, Bool.eq_iff_iff, Bool.or_eq_true, List.contains_iff_mem, List.contains_iff_mem, decide_eq_true_iff, List.take_add_one, List.mem_append, List.getElem?_eq_getElem hlt2, getElem!_pos rows m hlt2]
            simp [eq_comm])
          skip
          cases t with
          | true =>
            have HTR := Lib.hid HT.out
            clear HT
            go_wp2_with fail
            go_roundw
            case rel => exact ⟨true, m + 1, rfl, by go_num, by omega, (show Hid _ from by rw [HTK.out, ← Bool.or_assoc, ← HTR.out]; rfl), H.less (by repeat (first | exact .slnil | refine .cons_cons _ ?_ | refine .cons _ ?_))⟩
            case measure => simp [intOf]; omega
          | false =>
            have HTR := Lib.hid HT.out
            clear HT
            skip
            by_cases hgk : g = (k : Int)
            · have hgb : (g == (k : Int)) = true := beq_iff_eq.2 hgk
              have HGK := Lib.hid hgk
              clear hgk
              go_wp2_with fail
              go_roundw
              case rel => exact ⟨true, m + 1, rfl, by go_num, by omega, (show Hid _ from by rw [HTK.out, decide_eq_true HGK.out]; simp; trivial), H.less (by repeat (first | exact .slnil | refine .cons_cons _ ?_ | refine .cons _ ?_))⟩
              case measure => simp [intOf]; omega
            · have hgb : (g == (k : Int)) = false := beq_eq_false_iff_ne.2 hgk
              have HGK := Lib.hid hgk
              clear hgk
              skip
              go_wp2_with fail
              go_roundw
              case rel => exact ⟨false, m + 1, rfl, by go_num, by omega, (show Hid _ from by rw [HTK.out, decide_eq_false HGK.out, Bool.or_false]; exact HTR.out), H.less (by repeat (first | exact .slnil | refine .cons_cons _ ?_ | refine .cons _ ?_))⟩
              case measure => simp [intOf]; omega
        · have hml : m = rows.length := by omega
          subst hml
          have ht := HT.out
          rw [List.take_length] at ht
          have HTT := Lib.hid ht
          clear ht HT
          skip
          skip
          cases t with
          | true =>
            go_wp2_with fail
            go_roundw
            case rel =>
              refine ⟨s + pl, k + 1, by go_num, by go_num, by omega, (show Hid _ from ?_), H.less (by repeat (first | exact .slnil | refine .cons_cons _ ?_ | refine .cons _ ?_))⟩
              rw [HW.out, ← HQ.out, HIN.out, ← HTT.out, if_pos rfl, HS0.out]; rfl
            case measure => simp [intOf]; omega
          | false =>
            skip
            go_wp2_with fail
            go_roundw
            case rel =>
              refine ⟨s, k + 1, rfl, by go_num, by omega, (show Hid _ from ?_), H.less (by repeat (first | exact .slnil | refine .cons_cons _ ?_ | refine .cons _ ?_))⟩
              rw [HW.out, ← HQ.out, HIN.out, ← HTT.out, HS0.out]; simp; trivial
            case measure => simp [intOf]; omega
    · have hkl : k = l.length := by omega
      subst hkl
      go_wp2_with fail
      go_ret
      exact ⟨by rw [← wk_full, ← HS0.out]; rfl, H.done⟩
/-- The rows of the first k needs. -/
def rowsK (l : List Nd) (a : Int) (rs : List P6) (k : Nat) : List Int := ((l.zipIdx.take k).filter (gOn l a rs)).map fun x => (x.2 : Int)
theorem rowsK_succ {l : List Nd} {k : Nat} (a : Int) (rs : List P6) (hk : k < l.length) : rowsK l a rs (k + 1) = rowsK l a rs k ++ if gOn l a rs (l[k]!, k) = true then [(k : Int)] else [] := by
  unfold rowsK
  rw [zip_take hk, List.filter_append, List.map_append, List.filter_cons, List.filter_nil]
  split <;> simp
theorem rowsK_full (l : List Nd) (a : Int) (rs : List P6) : rowsK l a rs l.length = rowsFor l a rs := by
  unfold rowsK; rw [zip_full]; rfl
theorem rowsK_len (l : List Nd) (a : Int) (rs : List P6) (k : Nat) : (rowsK l a rs k).length ≤ k := by
  unfold rowsK
  rw [List.length_map]
  exact Nat.le_trans (List.length_filter_le _ _) (by rw [List.length_take]; omega)
def aK (l : List Nd) (x : Nd × Nat) (i : Nat) : Nat := (l.zipIdx.take i).countP (aheadB · x)
theorem aK_succ {l : List Nd} {i : Nat} (x : Nd × Nat) (hi : i < l.length) : aK l x (i + 1) = aK l x i + if aheadB (l[i]!, i) x = true then 1 else 0 := by
  unfold aK
  rw [zip_take hi, List.countP_append, List.countP_cons, List.countP_nil, Nat.zero_add]
theorem aK_full (l : List Nd) (x : Nd × Nat) : aK l x l.length = nAhead l x := by unfold aK nAhead; rw [zip_full]
theorem aK_le (l : List Nd) (x : Nd × Nat) (i : Nat) : aK l x i ≤ i := by
  unfold aK
  exact Nat.le_trans List.countP_le_length (by rw [List.length_take]; omega)
set_option maxHeartbeats 16000000 in
theorem rrows_any {l : List Nd} (hx : l.length ≤ 20) (a : Int) {sa sc : Option Addr} (c e : Nat) {rs : List P6} (hs : rs.length ≤ 100000) (w : World) (hl : Lies w w.heap.size sa 7 l.length (fun j => ndC l[j]!)) (hls : Lies w w.heap.size sc 6 rs.length (fun j => pC rs[j]!)) :
    Calls Try.prog 37 #[.slice sa l.length c, .int .i64 a, .slice sc rs.length e] w (GivesS (fun v => v) 3 1 (rowsFor l a rs).length ((rowsFor l a rs).flatMap iC) w) := by
  have HL := Lib.hid hl
  have HLS := Lib.hid hls
  clear hl hls
  go_enter Try.func37, Try.ntmps37
  have H := HS.start NoD w
  have hnr := H.nilRow 3 1
  clear H
  have H := hnr
  clear hnr
  try simp only [List.nil_append, List.cons_append] at H
  try clear C
  try simp only [World.size_alloc, List.nil_append, List.cons_append, List.append_assoc] at H
  have C := H.cells
  try simp only [cellsOf, cellsM, apartOf, apartM, and_true] at C
  go_wp2_with fail
  go_loopw [7, 15] (fun u j wr => ∃ (k : Nat) (xs : List Int), j = .int .i64 k ∧ k ≤ l.length ∧ Hid (xs = rowsK l a rs k) ∧ HS NoD w [.row u 3 1 xs.length (xs.flatMap iC)] wr) (fun _ j _ => l.length - (intOf j).toNat)
  case atStart => exact ⟨0, [], rfl, Nat.zero_le _, (show Hid _ from rfl), H⟩
  case round =>
    clear H C
    obtain ⟨k, xs, rfl, hk, HX, H⟩ := hrel
    skip
    try clear C
    try simp only [World.size_alloc, List.nil_append, List.cons_append, List.append_assoc] at H
    have C := H.cells
    try simp only [cellsOf, cellsM, apartOf, apartM, and_true] at C
    by_cases hlt : k < l.length
    · have hki : (k : Int) < l.length := by omega
      have hk20 : (k : Int) ≤ 20 := by omega
      have hxl : xs.length ≤ 20 := by rw [HX.out]; have := rowsK_len l a rs k; omega
      obtain ⟨b, o, rfl, hb, hc⟩ := (H.lies HL.out).at hlt
      obtain ⟨q, hq⟩ : ∃ q, q = l[k]! := ⟨_, rfl⟩
      rw [← hq] at hc
      have HQ := Lib.hid hq
      clear hq
      have HRK := Lib.hid (rowsK_succ a rs hlt)
      obtain ⟨⟨p0, p1, p2, p3, p4, p5⟩, pl⟩ := q
      have c0 : wr.cell? ⟨b, o + k * 7, none⟩ = some (.int .i64 p0) := hc 0 _ rfl
      have c1 : wr.cell? ⟨b, o + k * 7 + 1, none⟩ = some (.int .i64 p1) := hc 1 _ rfl
      have c2 : wr.cell? ⟨b, o + k * 7 + 2, none⟩ = some (.int .i64 p2) := hc 2 _ rfl
      have c3 : wr.cell? ⟨b, o + k * 7 + 3, none⟩ = some (.int .i64 p3) := hc 3 _ rfl
      have c4 : wr.cell? ⟨b, o + k * 7 + 4, none⟩ = some (.int .i64 p4) := hc 4 _ rfl
      have c5 : wr.cell? ⟨b, o + k * 7 + 5, none⟩ = some (.int .i64 p5) := hc 5 _ rfl
      have c6 : wr.cell? ⟨b, o + k * 7 + 6, none⟩ = some (.int .i64 pl) := hc 6 _ rfl
      clear hc hb
      go_upto_region 5 with fail
      clear c0 c1 c2 c3 c4 c5 c6
      generalize hwb : wr.alloc _ = w1
      replace H := HS.eqW hwb H.alloc
      try simp only [World.size_alloc, List.nil_append, List.cons_append, List.append_assoc] at H
      clear hwb
      generalize wr.heap.size = bN at H ⊢
      try clear C
      try clear wr
      have C := H.cells
      try simp only [cellsOf, cellsM, apartOf, apartM, and_true] at C
      skip
      by_cases hz : pl = 0
      · subst hz
        go_wp2_with fail
        go_roundw
        case rel =>
          refine ⟨k + 1, xs, by go_num, by omega, (show Hid _ from ?_), H.less (by repeat (first | exact .slnil | refine .cons_cons _ ?_ | refine .cons _ ?_))⟩
          rw [HRK.out, if_neg (fun h => (gOn_iff.1 h).1 (by rw [← HQ.out])), HX.out, List.append_nil]; rfl
        case measure => simp [intOf]; omega
      · have hzb : (pl == 0) = false := beq_eq_false_iff_ne.2 hz
        have HZ := Lib.hid hz
        clear hz
        skip
        go_wp2_with fail
        refine (rin_any ⟨p0, p1, p2, p3, p4, p5⟩ e hs _ (H.liesUp HLS.out)).mono ?_
        rintro _ wc ⟨rfl, hb⟩
        replace H := H.below hb
        clear hb
        skip
        try clear C
        try simp only [World.size_alloc, List.nil_append, List.cons_append, List.append_assoc] at H
        have C := H.cells
        try simp only [cellsOf, cellsM, apartOf, apartM, and_true] at C
        skip
        cases hin : inR rs ⟨p0, p1, p2, p3, p4, p5⟩ with
        | true =>
          have HIN := Lib.hid hin
          clear hin
          go_wp2_with fail
          go_roundw
          case rel =>
            refine ⟨k + 1, xs, by go_num, by omega, (show Hid _ from ?_), H.less (by repeat (first | exact .slnil | refine .cons_cons _ ?_ | refine .cons _ ?_))⟩
            rw [HRK.out, if_neg (fun h => (by have h2 := (gOn_iff.1 h).2.1; rw [← HQ.out, HIN.out] at h2; cases h2)), HX.out, List.append_nil]; rfl
          case measure => simp [intOf]; omega
        | false =>
          have HIN := Lib.hid hin
          clear hin
          skip
          have HR := Lib.hid (fun W => rbank_any ⟨p0, p1, p2, p3, p4, p5⟩ W)
          go_wp2_with fail
          clear hzb
          go_loopw [10, 31] (fun nn j wr => ∃ (n i : Nat), nn = .int .i64 n ∧ j = .int .i64 i ∧ i ≤ l.length ∧ Hid (n = aK l ((⟨⟨p0, p1, p2, p3, p4, p5⟩, pl⟩ : Nd), k) i) ∧ HS NoD w [.row u7 3 1 xs.length (xs.flatMap iC), .blk bN #[.int .i64 p0, .int .i64 p1, .int .i64 p2, .int .i64 p3, .int .i64 p4, .int .i64 p5, .int .i64 pl] 41] wr) (fun _ j _ => l.length - (intOf j).toNat)
          case atStart => exact ⟨0, 0, rfl, rfl, Nat.zero_le _, (show Hid _ from rfl), H⟩
          case round =>
            clear H C
            obtain ⟨n, i, rfl, rfl, hi, HN, H⟩ := hrel
            skip
            try clear C
            try simp only [World.size_alloc, List.nil_append, List.cons_append, List.append_assoc] at H
            have C := H.cells
            try simp only [cellsOf, cellsM, apartOf, apartM, and_true] at C
            have hn20 : n ≤ 20 := by have := aK_le l ((⟨⟨p0, p1, p2, p3, p4, p5⟩, pl⟩ : Nd), k) i; have := HN.out; omega
            by_cases hlt2 : i < l.length
            · have hii : (i : Int) < l.length := by omega
              obtain ⟨b2, o2, e0, hb2, hc2⟩ := (H.lies HL.out).at hlt2
              cases e0
              obtain ⟨q2, hq2⟩ : ∃ q, q = l[i]! := ⟨_, rfl⟩
              rw [← hq2] at hc2
              have HQ2 := Lib.hid hq2
              clear hq2
              have HAK := Lib.hid (aK_succ ((⟨⟨p0, p1, p2, p3, p4, p5⟩, pl⟩ : Nd), k) hlt2)
              rw [← HQ2.out] at HAK
              obtain ⟨⟨q0, q1, q2, q3, q4, q5⟩, ql⟩ := q2
              have d0 : wr.cell? ⟨b, o + i * 7, none⟩ = some (.int .i64 q0) := hc2 0 _ rfl
              have d1 : wr.cell? ⟨b, o + i * 7 + 1, none⟩ = some (.int .i64 q1) := hc2 1 _ rfl
              have d2 : wr.cell? ⟨b, o + i * 7 + 2, none⟩ = some (.int .i64 q2) := hc2 2 _ rfl
              have d3 : wr.cell? ⟨b, o + i * 7 + 3, none⟩ = some (.int .i64 q3) := hc2 3 _ rfl
              have d4 : wr.cell? ⟨b, o + i * 7 + 4, none⟩ = some (.int .i64 q4) := hc2 4 _ rfl
              have d5 : wr.cell? ⟨b, o + i * 7 + 5, none⟩ = some (.int .i64 q5) := hc2 5 _ rfl
              have d6 : wr.cell? ⟨b, o + i * 7 + 6, none⟩ = some (.int .i64 ql) := hc2 6 _ rfl
              clear hc2 hb2
              have HR2 := Lib.hid (fun W => rbank_any ⟨q0, q1, q2, q3, q4, q5⟩ W)
              have heq := fun w => eqlP (bankP ⟨q0, q1, q2, q3, q4, q5⟩) (bankP ⟨p0, p1, p2, p3, p4, p5⟩) w
              go_upto_region 10 with fail
              clear d0 d1 d2 d3 d4 d5 d6
              generalize hwb : wr.alloc _ = w2
              replace H := HS.eqW hwb H.alloc
              try simp only [World.size_alloc, List.nil_append, List.cons_append, List.append_assoc] at H
              clear hwb
              generalize wr.heap.size = bM at H ⊢
              try clear C
              try clear wr
              have C := H.cells
              try simp only [cellsOf, cellsM, apartOf, apartM, and_true] at C
              skip
              generalize hbx : bankP ⟨p0, p1, p2, p3, p4, p5⟩ = x at HR heq
              generalize hby : bankP ⟨q0, q1, q2, q3, q4, q5⟩ = y at HR2 heq
              have HBX := Lib.hid hbx
              have HBY := Lib.hid hby
              clear hbx hby
              replace HR := Lib.hid (show ∀ W, Calls Try.prog 14 #[v6 p0 p1 p2 p3 p4 p5] W (Gives (v6 x.a x.b x.c x.d x.e x.f) W) from HR.out)
              replace HR2 := Lib.hid (show ∀ W, Calls Try.prog 14 #[v6 q0 q1 q2 q3 q4 q5] W (Gives (v6 y.a y.b y.c y.d y.e y.f) W) from HR2.out)
              replace heq := (show ∀ w, (binOp .eql 39 (v6 y.a y.b y.c y.d y.e y.f) (v6 x.a x.b x.c x.d x.e x.f)).run Try.prog w = .ok (.bool (decide (y = x))) w from heq)
              by_cases he : y = x
              · rw [decide_eq_true he] at heq
                have HE := Lib.hid (show bankP ⟨q0, q1, q2, q3, q4, q5⟩ = bankP ⟨p0, p1, p2, p3, p4, p5⟩ from HBY.out.trans (he.trans HBX.out.symm))
                clear he
                by_cases h1 : pl < ql
                · have H1 := Lib.hid h1
                  skip
                  refine wp_region_xH (by kernel_rfl) (by kernel_rfl) (by kernel_rfl) (by kernel_rfl) (fun _ => False) (H) ?_
                  clear H; intro w3 H hz0 hs0
                  try clear C
                  try simp only [World.size_alloc, List.nil_append, List.cons_append, List.append_assoc] at H hz0
                  clear hz0
                  try clear w2
                  have C := H.cells
                  try simp only [cellsOf, cellsM, apartOf, apartM, and_true] at C
                  have Z := H.zs
                  try simp only [ltsOf, ltsM, and_true] at Z
                  have hz0 := Nat.le_refl w3.heap.size
                  repeat (first | (refine wpX_skip rfl ?_; go_simp) | (refine wpX_free rfl rfl rfl (fun K hK => ?_); go_step; refine hK _ _ ?_; clear hK K) | (refine wpX_load rfl rfl rfl (by simp [Stay, OneD, NoD, *]) hs0 (by simp [*]) (fun K hK => ?_); go_step; refine hK _ _ ?_; clear hK K))
                  refine wpX_eff rfl rfl (fun _ _ => ?_)
                  go_step
                  refine (HR2.out _).mono ?_
                  rintro _ w4 ⟨rfl, hb⟩
                  replace hs0 := hs0.belowS hz0 hb
                  replace hz0 := Nat.le_trans hz0 hb.size
                  replace H := H.below hb
                  clear hb
                  try clear C
                  have C := H.cells
                  try simp only [cellsOf, cellsM, apartOf, apartM, and_true] at C
                  try clear w3
                  dsimp only
                  go_step
                  refine ⟨hs0, ?_⟩
                  repeat (first | (refine wpX_skip rfl ?_; go_simp) | (refine wpX_free rfl rfl rfl (fun K hK => ?_); go_step; refine hK _ _ ?_; clear hK K) | (refine wpX_load rfl rfl rfl (by simp [Stay, OneD, NoD, *]) hs0 (by simp [*]) (fun K hK => ?_); go_step; refine hK _ _ ?_; clear hK K))
                  refine wpX_eff rfl rfl (fun _ _ => ?_)
                  go_step
                  refine (HR.out _).mono ?_
                  rintro _ w5 ⟨rfl, hb⟩
                  replace hs0 := hs0.belowS hz0 hb
                  replace hz0 := Nat.le_trans hz0 hb.size
                  replace H := H.below hb
                  clear hb
                  try clear C
                  have C := H.cells
                  try simp only [cellsOf, cellsM, apartOf, apartM, and_true] at C
                  try clear w4
                  dsimp only
                  go_step
                  refine ⟨hs0, ?_⟩
                  repeat (first | (refine wpX_skip rfl ?_; go_simp) | (refine wpX_free rfl rfl rfl (fun K hK => ?_); go_step; refine hK _ _ ?_; clear hK K) | (refine wpX_load rfl rfl rfl (by simp [Stay, OneD, NoD, *]) hs0 (by simp [*]) (fun K hK => ?_); go_step; refine hK _ _ ?_; clear hK K))
                  (refine wpX_yield rfl rfl ((.bool true)) (fun w hw => by go_simp) ?_; go_simp)
                  repeat (first | (refine wpX_skip rfl ?_; go_simp) | (refine wpX_free rfl rfl rfl (fun K hK => ?_); go_step; refine hK _ _ ?_; clear hK K) | (refine wpX_load rfl rfl rfl (by simp [Stay, OneD, NoD, *]) hs0 (by simp [*]) (fun K hK => ?_); go_step; refine hK _ _ ?_; clear hK K))
                  (refine wpX_nil ?_; go_step)
                  go_wp2_with fail
                  go_roundw
                  case rel => exact ⟨n + 1, i + 1, by go_num, by go_num, by omega, (show Hid _ from by rw [HAK.out, if_pos (show aheadB ((⟨⟨q0, q1, q2, q3, q4, q5⟩, ql⟩ : Nd), i) ((⟨⟨p0, p1, p2, p3, p4, p5⟩, pl⟩ : Nd), k) = true from aheadB_iff.2 ⟨HE.out, .inl H1.out⟩), HN.out]; rfl), H.less (by repeat (first | exact .slnil | refine .cons_cons _ ?_ | refine .cons _ ?_))⟩
                  case measure => simp [intOf]; omega
                · have H1 := Lib.hid h1
                  by_cases h2 : ql = pl
                  · subst h2
                    by_cases h3 : i < k
                    · have h3i : (i : Int) < k := by omega
                      have H3 := Lib.hid h3
                      skip
                      refine wp_region_xH (by kernel_rfl) (by kernel_rfl) (by kernel_rfl) (by kernel_rfl) (fun _ => False) (H) ?_
                      clear H; intro w6 H hz0 hs0
                      try clear C
                      try simp only [World.size_alloc, List.nil_append, List.cons_append, List.append_assoc] at H hz0
                      clear hz0
                      try clear w2
                      have C := H.cells
                      try simp only [cellsOf, cellsM, apartOf, apartM, and_true] at C
                      have Z := H.zs
                      try simp only [ltsOf, ltsM, and_true] at Z
                      have hz0 := Nat.le_refl w6.heap.size
                      repeat (first | (refine wpX_skip rfl ?_; go_simp) | (refine wpX_free rfl rfl rfl (fun K hK => ?_); go_step; refine hK _ _ ?_; clear hK K) | (refine wpX_load rfl rfl rfl (by simp [Stay, OneD, NoD, *]) hs0 (by simp [*]) (fun K hK => ?_); go_step; refine hK _ _ ?_; clear hK K))
                      refine wpX_eff rfl rfl (fun _ _ => ?_)
                      go_step
                      refine (HR2.out _).mono ?_
                      rintro _ w7 ⟨rfl, hb⟩
                      replace hs0 := hs0.belowS hz0 hb
                      replace hz0 := Nat.le_trans hz0 hb.size
                      replace H := H.below hb
                      clear hb
                      try clear C
                      have C := H.cells
                      try simp only [cellsOf, cellsM, apartOf, apartM, and_true] at C
                      try clear w6
                      dsimp only
                      go_step
                      refine ⟨hs0, ?_⟩
                      repeat (first | (refine wpX_skip rfl ?_; go_simp) | (refine wpX_free rfl rfl rfl (fun K hK => ?_); go_step; refine hK _ _ ?_; clear hK K) | (refine wpX_load rfl rfl rfl (by simp [Stay, OneD, NoD, *]) hs0 (by simp [*]) (fun K hK => ?_); go_step; refine hK _ _ ?_; clear hK K))
                      refine wpX_eff rfl rfl (fun _ _ => ?_)
                      go_step
                      refine (HR.out _).mono ?_
                      rintro _ w8 ⟨rfl, hb⟩
                      replace hs0 := hs0.belowS hz0 hb
                      replace hz0 := Nat.le_trans hz0 hb.size
                      replace H := H.below hb
                      clear hb
                      try clear C
                      have C := H.cells
                      try simp only [cellsOf, cellsM, apartOf, apartM, and_true] at C
                      try clear w7
                      dsimp only
                      go_step
                      refine ⟨hs0, ?_⟩
                      repeat (first | (refine wpX_skip rfl ?_; go_simp) | (refine wpX_free rfl rfl rfl (fun K hK => ?_); go_step; refine hK _ _ ?_; clear hK K) | (refine wpX_load rfl rfl rfl (by simp [Stay, OneD, NoD, *]) hs0 (by simp [*]) (fun K hK => ?_); go_step; refine hK _ _ ?_; clear hK K))
                      (refine wpX_yield rfl rfl ((.bool true)) (fun w hw => by go_simp) ?_; go_simp)
                      repeat (first | (refine wpX_skip rfl ?_; go_simp) | (refine wpX_free rfl rfl rfl (fun K hK => ?_); go_step; refine hK _ _ ?_; clear hK K) | (refine wpX_load rfl rfl rfl (by simp [Stay, OneD, NoD, *]) hs0 (by simp [*]) (fun K hK => ?_); go_step; refine hK _ _ ?_; clear hK K))
                      (refine wpX_nil ?_; go_step)
                      go_wp2_with fail
                      go_roundw
                      case rel => exact ⟨n + 1, i + 1, by go_num, by go_num, by omega, (show Hid _ from by rw [HAK.out, if_pos (show aheadB ((⟨⟨q0, q1, q2, q3, q4, q5⟩, ql⟩ : Nd), i) ((⟨⟨p0, p1, p2, p3, p4, p5⟩, ql⟩ : Nd), k) = true from aheadB_iff.2 ⟨HE.out, .inr ⟨rfl, H3.out⟩⟩), HN.out]; rfl), H.less (by repeat (first | exact .slnil | refine .cons_cons _ ?_ | refine .cons _ ?_))⟩
                      case measure => simp [intOf]; omega
                    · have h3i : ¬ (i : Int) < k := by omega
                      have H3 := Lib.hid h3
                      skip
                      refine wp_region_xH (by kernel_rfl) (by kernel_rfl) (by kernel_rfl) (by kernel_rfl) (fun _ => False) (H) ?_
                      clear H; intro w9 H hz0 hs0
                      try clear C
                      try simp only [World.size_alloc, List.nil_append, List.cons_append, List.append_assoc] at H hz0
                      clear hz0
                      try clear w2
                      have C := H.cells
                      try simp only [cellsOf, cellsM, apartOf, apartM, and_true] at C
                      have Z := H.zs
                      try simp only [ltsOf, ltsM, and_true] at Z
                      have hz0 := Nat.le_refl w9.heap.size
                      repeat (first | (refine wpX_skip rfl ?_; go_simp) | (refine wpX_free rfl rfl rfl (fun K hK => ?_); go_step; refine hK _ _ ?_; clear hK K) | (refine wpX_load rfl rfl rfl (by simp [Stay, OneD, NoD, *]) hs0 (by simp [*]) (fun K hK => ?_); go_step; refine hK _ _ ?_; clear hK K))
                      refine wpX_eff rfl rfl (fun _ _ => ?_)
                      go_step
                      refine (HR2.out _).mono ?_
                      rintro _ w10 ⟨rfl, hb⟩
                      replace hs0 := hs0.belowS hz0 hb
                      replace hz0 := Nat.le_trans hz0 hb.size
                      replace H := H.below hb
                      clear hb
                      try clear C
                      have C := H.cells
                      try simp only [cellsOf, cellsM, apartOf, apartM, and_true] at C
                      try clear w9
                      dsimp only
                      go_step
                      refine ⟨hs0, ?_⟩
                      repeat (first | (refine wpX_skip rfl ?_; go_simp) | (refine wpX_free rfl rfl rfl (fun K hK => ?_); go_step; refine hK _ _ ?_; clear hK K) | (refine wpX_load rfl rfl rfl (by simp [Stay, OneD, NoD, *]) hs0 (by simp [*]) (fun K hK => ?_); go_step; refine hK _ _ ?_; clear hK K))
                      refine wpX_eff rfl rfl (fun _ _ => ?_)
                      go_step
                      refine (HR.out _).mono ?_
                      rintro _ w11 ⟨rfl, hb⟩
                      replace hs0 := hs0.belowS hz0 hb
                      replace hz0 := Nat.le_trans hz0 hb.size
                      replace H := H.below hb
                      clear hb
                      try clear C
                      have C := H.cells
                      try simp only [cellsOf, cellsM, apartOf, apartM, and_true] at C
                      try clear w10
                      dsimp only
                      go_step
                      refine ⟨hs0, ?_⟩
                      repeat (first | (refine wpX_skip rfl ?_; go_simp) | (refine wpX_free rfl rfl rfl (fun K hK => ?_); go_step; refine hK _ _ ?_; clear hK K) | (refine wpX_load rfl rfl rfl (by simp [Stay, OneD, NoD, *]) hs0 (by simp [*]) (fun K hK => ?_); go_step; refine hK _ _ ?_; clear hK K))
                      (refine wpX_yield rfl rfl ((.bool true)) (fun w hw => by go_simp) ?_; go_simp)
                      repeat (first | (refine wpX_skip rfl ?_; go_simp) | (refine wpX_free rfl rfl rfl (fun K hK => ?_); go_step; refine hK _ _ ?_; clear hK K) | (refine wpX_load rfl rfl rfl (by simp [Stay, OneD, NoD, *]) hs0 (by simp [*]) (fun K hK => ?_); go_step; refine hK _ _ ?_; clear hK K))
                      (refine wpX_nil ?_; go_step)
                      go_wp2_with fail
                      go_roundw
                      case rel => exact ⟨n, i + 1, rfl, by go_num, by omega, (show Hid _ from by rw [HAK.out, if_neg (show ¬ aheadB ((⟨⟨q0, q1, q2, q3, q4, q5⟩, ql⟩ : Nd), i) ((⟨⟨p0, p1, p2, p3, p4, p5⟩, ql⟩ : Nd), k) = true from fun h => (by have h4 := (aheadB_iff.1 h).2; rcases h4 with h4 | h4; exact H1.out h4; exact H3.out h4.2)), HN.out]; rfl), H.less (by repeat (first | exact .slnil | refine .cons_cons _ ?_ | refine .cons _ ?_))⟩
                      case measure => simp [intOf]; omega
                  · have h2b : (ql == pl) = false := beq_eq_false_iff_ne.2 h2
                    have H2 := Lib.hid h2
                    skip
                    refine wp_region_xH (by kernel_rfl) (by kernel_rfl) (by kernel_rfl) (by kernel_rfl) (fun _ => False) (H) ?_
                    clear H; intro w12 H hz0 hs0
                    try clear C
                    try simp only [World.size_alloc, List.nil_append, List.cons_append, List.append_assoc] at H hz0
                    clear hz0
                    try clear w2
                    have C := H.cells
                    try simp only [cellsOf, cellsM, apartOf, apartM, and_true] at C
                    have Z := H.zs
                    try simp only [ltsOf, ltsM, and_true] at Z
                    have hz0 := Nat.le_refl w12.heap.size
                    repeat (first | (refine wpX_skip rfl ?_; go_simp) | (refine wpX_free rfl rfl rfl (fun K hK => ?_); go_step; refine hK _ _ ?_; clear hK K) | (refine wpX_load rfl rfl rfl (by simp [Stay, OneD, NoD, *]) hs0 (by simp [*]) (fun K hK => ?_); go_step; refine hK _ _ ?_; clear hK K))
                    refine wpX_eff rfl rfl (fun _ _ => ?_)
                    go_step
                    refine (HR2.out _).mono ?_
                    rintro _ w13 ⟨rfl, hb⟩
                    replace hs0 := hs0.belowS hz0 hb
                    replace hz0 := Nat.le_trans hz0 hb.size
                    replace H := H.below hb
                    clear hb
                    try clear C
                    have C := H.cells
                    try simp only [cellsOf, cellsM, apartOf, apartM, and_true] at C
                    try clear w12
                    dsimp only
                    go_step
                    refine ⟨hs0, ?_⟩
                    repeat (first | (refine wpX_skip rfl ?_; go_simp) | (refine wpX_free rfl rfl rfl (fun K hK => ?_); go_step; refine hK _ _ ?_; clear hK K) | (refine wpX_load rfl rfl rfl (by simp [Stay, OneD, NoD, *]) hs0 (by simp [*]) (fun K hK => ?_); go_step; refine hK _ _ ?_; clear hK K))
                    refine wpX_eff rfl rfl (fun _ _ => ?_)
                    go_step
                    refine (HR.out _).mono ?_
                    rintro _ w14 ⟨rfl, hb⟩
                    replace hs0 := hs0.belowS hz0 hb
                    replace hz0 := Nat.le_trans hz0 hb.size
                    replace H := H.below hb
                    clear hb
                    try clear C
                    have C := H.cells
                    try simp only [cellsOf, cellsM, apartOf, apartM, and_true] at C
                    try clear w13
                    dsimp only
                    go_step
                    refine ⟨hs0, ?_⟩
                    repeat (first | (refine wpX_skip rfl ?_; go_simp) | (refine wpX_free rfl rfl rfl (fun K hK => ?_); go_step; refine hK _ _ ?_; clear hK K) | (refine wpX_load rfl rfl rfl (by simp [Stay, OneD, NoD, *]) hs0 (by simp [*]) (fun K hK => ?_); go_step; refine hK _ _ ?_; clear hK K))
                    (refine wpX_yield rfl rfl ((.bool true)) (fun w hw => by go_simp) ?_; go_simp)
                    repeat (first | (refine wpX_skip rfl ?_; go_simp) | (refine wpX_free rfl rfl rfl (fun K hK => ?_); go_step; refine hK _ _ ?_; clear hK K) | (refine wpX_load rfl rfl rfl (by simp [Stay, OneD, NoD, *]) hs0 (by simp [*]) (fun K hK => ?_); go_step; refine hK _ _ ?_; clear hK K))
                    (refine wpX_nil ?_; go_step)
                    go_wp2_with fail
                    go_roundw
                    case rel => exact ⟨n, i + 1, rfl, by go_num, by omega, (show Hid _ from by rw [HAK.out, if_neg (show ¬ aheadB ((⟨⟨q0, q1, q2, q3, q4, q5⟩, ql⟩ : Nd), i) ((⟨⟨p0, p1, p2, p3, p4, p5⟩, pl⟩ : Nd), k) = true from fun h => (by have h4 := (aheadB_iff.1 h).2; rcases h4 with h4 | h4; exact H1.out h4; exact H2.out h4.1)), HN.out]; rfl), H.less (by repeat (first | exact .slnil | refine .cons_cons _ ?_ | refine .cons _ ?_))⟩
                    case measure => simp [intOf]; omega
              · rw [decide_eq_false he] at heq
                have HE := Lib.hid (show ¬ bankP ⟨q0, q1, q2, q3, q4, q5⟩ = bankP ⟨p0, p1, p2, p3, p4, p5⟩ from fun h => he (HBY.out.symm.trans (h.trans HBX.out)))
                clear he
                skip
                refine wp_region_xH (by kernel_rfl) (by kernel_rfl) (by kernel_rfl) (by kernel_rfl) (fun _ => False) (H) ?_
                clear H; intro w15 H hz0 hs0
                try clear C
                try simp only [World.size_alloc, List.nil_append, List.cons_append, List.append_assoc] at H hz0
                clear hz0
                try clear w2
                have C := H.cells
                try simp only [cellsOf, cellsM, apartOf, apartM, and_true] at C
                have Z := H.zs
                try simp only [ltsOf, ltsM, and_true] at Z
                have hz0 := Nat.le_refl w15.heap.size
                repeat (first | (refine wpX_skip rfl ?_; go_simp) | (refine wpX_free rfl rfl rfl (fun K hK => ?_); go_step; refine hK _ _ ?_; clear hK K) | (refine wpX_load rfl rfl rfl (by simp [Stay, OneD, NoD, *]) hs0 (by simp [*]) (fun K hK => ?_); go_step; refine hK _ _ ?_; clear hK K))
                refine wpX_eff rfl rfl (fun _ _ => ?_)
                go_step
                refine (HR2.out _).mono ?_
                rintro _ w16 ⟨rfl, hb⟩
                replace hs0 := hs0.belowS hz0 hb
                replace hz0 := Nat.le_trans hz0 hb.size
                replace H := H.below hb
                clear hb
                try clear C
                have C := H.cells
                try simp only [cellsOf, cellsM, apartOf, apartM, and_true] at C
                try clear w15
                dsimp only
                go_step
                refine ⟨hs0, ?_⟩
                repeat (first | (refine wpX_skip rfl ?_; go_simp) | (refine wpX_free rfl rfl rfl (fun K hK => ?_); go_step; refine hK _ _ ?_; clear hK K) | (refine wpX_load rfl rfl rfl (by simp [Stay, OneD, NoD, *]) hs0 (by simp [*]) (fun K hK => ?_); go_step; refine hK _ _ ?_; clear hK K))
                refine wpX_eff rfl rfl (fun _ _ => ?_)
                go_step
                refine (HR.out _).mono ?_
                rintro _ w17 ⟨rfl, hb⟩
                replace hs0 := hs0.belowS hz0 hb
                replace hz0 := Nat.le_trans hz0 hb.size
                replace H := H.below hb
                clear hb
                try clear C
                have C := H.cells
                try simp only [cellsOf, cellsM, apartOf, apartM, and_true] at C
                try clear w16
                dsimp only
                go_step
                refine ⟨hs0, ?_⟩
                repeat (first | (refine wpX_skip rfl ?_; go_simp) | (refine wpX_free rfl rfl rfl (fun K hK => ?_); go_step; refine hK _ _ ?_; clear hK K) | (refine wpX_load rfl rfl rfl (by simp [Stay, OneD, NoD, *]) hs0 (by simp [*]) (fun K hK => ?_); go_step; refine hK _ _ ?_; clear hK K))
                (refine wpX_yield rfl rfl ((.bool false)) (fun w hw => by go_simp) ?_; go_simp)
                repeat (first | (refine wpX_skip rfl ?_; go_simp) | (refine wpX_free rfl rfl rfl (fun K hK => ?_); go_step; refine hK _ _ ?_; clear hK K) | (refine wpX_load rfl rfl rfl (by simp [Stay, OneD, NoD, *]) hs0 (by simp [*]) (fun K hK => ?_); go_step; refine hK _ _ ?_; clear hK K))
                (refine wpX_nil ?_; go_step)
                go_wp2_with fail
                go_roundw
                case rel => exact ⟨n, i + 1, rfl, by go_num, by omega, (show Hid _ from by rw [HAK.out, if_neg (show ¬ aheadB ((⟨⟨q0, q1, q2, q3, q4, q5⟩, ql⟩ : Nd), i) ((⟨⟨p0, p1, p2, p3, p4, p5⟩, pl⟩ : Nd), k) = true from fun h => HE.out (aheadB_iff.1 h).1), HN.out]; rfl), H.less (by repeat (first | exact .slnil | refine .cons_cons _ ?_ | refine .cons _ ?_))⟩
                case measure => simp [intOf]; omega
            · have hil : i = l.length := by omega
              subst hil
              have hnn := HN.out
              rw [aK_full] at hnn
              have HNN := Lib.hid hnn
              clear hnn HN HR
              skip
              skip
              by_cases hna : (n : Int) < a
              · have HNA := Lib.hid hna
                go_wp2_with (at_builtin; refine wpList_append_H rfl (.tmp 68) (.tmp 70) 22 rfl elemI1 H.alloc 0 rfl rfl 2 rfl rfl rfl rfl (by decide) (by unfold maxLen; omega) (by omega) (fun g cap wz HZ9 => ?_); clear H C)
                go_roundw
                case rel =>
                  refine ⟨k + 1, xs ++ [(k : Int)], by go_num, by omega, (show Hid _ from ?_), ?_⟩
                  · rw [HRK.out, if_pos (gOn_iff.2 ⟨by rw [← HQ.out]; exact HZ.out, by rw [← HQ.out]; exact HIN.out, by rw [← HQ.out, ← HNN.out]; exact HNA.out⟩), HX.out]; rfl
                  · rw [List.length_append, List.flatMap_append]
                    exact HS.less HZ9 (by repeat (first | exact .slnil | refine .cons_cons _ ?_ | refine .cons _ ?_))
                case measure => simp [intOf]; omega
              · have HNA := Lib.hid hna
                skip
                go_wp2_with fail
                go_roundw
                case rel =>
                  refine ⟨k + 1, xs, by go_num, by omega, (show Hid _ from ?_), H.less (by repeat (first | exact .slnil | refine .cons_cons _ ?_ | refine .cons _ ?_))⟩
                  rw [HRK.out, if_neg (fun h => HNA.out (by have h2 := (gOn_iff.1 h).2.2; rw [← HQ.out, ← HNN.out] at h2; exact h2)), HX.out, List.append_nil]; rfl
                case measure => simp [intOf]; omega
    · have hkl : k = l.length := by omega
      subst hkl
      obtain ⟨s5, c5, rfl⟩ := ownsRow_slice (H.at 0 rfl)
      have hxf := HX.out
      rw [rowsK_full] at hxf
      subst hxf
      go_wp2_with fail
      go_ret
      exact H.givesS 0 rfl
end Go.Proofs.Ytdhnpjgnnfgklaa
