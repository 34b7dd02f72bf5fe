/- program.Pages: the pages in the end. -/
import Derived.Test.YthpoanlmaafanaaPgT
namespace Go.Proofs.Ythpoanlmaafanaa
set_option linter.unusedSimpArgs false
set_option linter.unusedVariables false
open Go.RowKit
set_option maxRecDepth 100000
attribute [local go_sem] run_mkMapG
attribute [local irreducible] wpX wpF Calls

theorem infoUse : (Try.prog.info? 40).map (fun i => (i.zero, i.size, i.bytes)) = some (some (.agg #[.int .i64 0, .int .i64 0]), 2, 16) := by kernel_rfl
theorem elemUse : Elem Try.prog 32 40 (.agg #[.int .i64 0, .int .i64 0]) 2 16 := Elem.mk' Try.underlying32 infoUse rfl (by decide)
theorem key_injG {x y : MapEntry} : ∀ {l : List MapEntry}, (l.map (·.key)).Nodup → x ∈ l → y ∈ l → x.key = y.key → x = y
  | [], _, hx, _, _ => absurd hx (by simp)
  | z :: l, hn, hx, hy, e => by
    simp only [List.map_cons, List.nodup_cons] at hn
    rcases List.mem_cons.1 hx with h1 | h1
    · rcases List.mem_cons.1 hy with h2 | h2
      · rw [h1, h2]
      · exact absurd (List.mem_map.2 ⟨y, h2, by rw [← e, h1]⟩) hn.1
    · rcases List.mem_cons.1 hy with h2 | h2
      · exact absurd (List.mem_map.2 ⟨x, h1, by rw [e, h2]⟩) hn.1
      · exact key_injG hn.2 h1 h2 e
theorem MapG.keyNodup {es : Array MapEntry} {clock : Nat} {M : List ((Int × Int) × Value)} (h : MapG kU es clock M) : (es.toList.map (·.key)).Nodup := by
  have e : es.toList.map (·.key) = (M.map (·.1)).map kU := by
    have := congrArg (List.map Prod.fst) h.kv
    rw [List.map_map, List.map_map] at this
    rw [List.map_map]
    exact this
  rw [e]
  show List.Pairwise (· ≠ ·) _
  rw [List.pairwise_map]
  exact (show (M.map (·.1)).Pairwise (· ≠ ·) from h.keys).imp fun hne e9 => hne (kU_inj e9)
theorem leftG_seen {es : Array MapEntry} {seen : Array Nat} {e : MapEntry} (h : leftG es (seen.push e.born) < leftG es seen) : seen.contains e.born = false := by
  cases hc : seen.contains e.born with
  | false => rfl
  | true =>
    exfalso
    rw [leftG_eq, leftG_eq] at h
    have : ∀ x : MapEntry, (!(seen.push e.born).contains x.born) = !seen.contains x.born := fun x => by
      rw [Array.contains_push]
      by_cases hx : x.born = e.born
      · rw [hx, hc]; simp
      · simp [hx]
    simp only [this] at h
    omega
/-- The keys that have come. -/
structure Came (f : PgF) (es : Array MapEntry) (seen : Array Nat) (us : List (Int × Int)) : Prop where
  nodup : us.Nodup
  some : ∀ x ∈ us, f x ≠ none
  old : ∀ x ∈ us, ∃ e ∈ es.toList, e.key = kU x ∧ seen.contains e.born = true
  new : SeenG kU (fun x => x ∈ us) es seen
theorem Came.step {f : PgF} {es : Array MapEntry} {clock : Nat} {M : List ((Int × Int) × Value)} {seen : Array Nat} {us : List (Int × Int)} (hM : MapG kU es clock M) (h : Came f es seen us) {e : MapEntry} (he : e ∈ es.toList) {x : Int × Int} (hk : e.key = kU x) (hf : f x ≠ none) (hl : leftG es (seen.push e.born) < leftG es seen) : Came f es (seen.push e.born) (us ++ [x]) := by
  have hns := leftG_seen hl
  refine ⟨?_, fun y hy => ?_, fun y hy => ?_, ?_⟩
  · rw [List.nodup_append]
    refine ⟨h.nodup, by simp, fun a ha b hb e9 => ?_⟩
    cases List.mem_singleton.1 hb
    subst e9
    obtain ⟨e', he', hk', hs'⟩ := h.old a ha
    have := key_injG hM.keyNodup he' he (hk'.trans hk.symm)
    subst this
    rw [hns] at hs'
    cases hs'
  · rcases List.mem_append.1 hy with hy | hy
    · exact h.some y hy
    · cases List.mem_singleton.1 hy; exact hf
  · rcases List.mem_append.1 hy with hy | hy
    · obtain ⟨e', he', hk', hs'⟩ := h.old y hy
      exact ⟨e', he', hk', by rw [Array.contains_push, hs']; simp⟩
    · cases List.mem_singleton.1 hy
      exact ⟨e, he, hk, by simp⟩
  · refine SeenG.push (h.new.imp fun y hy => by simp [hy]) hM he fun y hy => ?_
    have := kU_inj (hk.symm.trans hy)
    simp [this]
theorem Came.uq {f : PgF} {es : Array MapEntry} {clock : Nat} {M : List ((Int × Int) × Value)} {seen : Array Nat} {us ts : List (Int × Int)} (hM : MapG kU es clock M) (hf : ∀ x, getG x M = (f x).map vQ) (h : Came f es seen us) (hd : ∀ e ∈ es.toList, seen.contains e.born = true) (hp : ts.Perm us) (hs : ts.Pairwise (fun x y => ¬ lexU y x)) : Uq f ts := by
  have hn : ts.Nodup := hp.nodup_iff.2 h.nodup
  refine ⟨List.Pairwise.imp_of_mem (R := fun x y => ¬ lexU y x ∧ x ≠ y) (fun _ _ h9 => ?_) (List.pairwise_and_iff.2 ⟨hs, hn⟩), fun x => ?_⟩
  · obtain ⟨h1, h2⟩ := h9
    rename_i a b _ _
    obtain ⟨a1, a2⟩ := a
    obtain ⟨b1, b2⟩ := b
    unfold lexU at *
    dsimp only at *
    by_cases e1 : a1 = b1
    · by_cases e2 : a2 = b2
      · exact absurd (by rw [e1, e2]) h2
      · omega
    · omega
  · rw [hp.mem_iff]
    refine ⟨h.some x, fun hx => ?_⟩
    cases hq : f x with
    | none => exact absurd hq hx
    | some q => exact h.new.all hM hd x (vQ q) ((getG_mem hM.keys).1 (by rw [hf, hq]; rfl))
def GivesPg (f : PgF) (w : World) (e : Ending) (w' : World) : Prop :=
  ∃ (us : List (Int × Int)) (v : Value), e = .returned v ∧ Uq f us ∧ us.length ≤ 999000 ∧ HS NoD w [.row v 40 2 us.length (us.flatMap encU)] w'
set_option maxHeartbeats 8000000 in
theorem pages_any {l : List Ox} (hx : l.length ≤ 1000000) {sa : Option Addr} (c : Nat) (w : World) (hl : Lies w w.heap.size sa 6 l.length (fun j => oxC l[j]!)) :
    Calls Try.prog 15 #[.slice sa l.length c] w (GivesPg (runF 0 l noF) w) := by
  have HL := Lib.hid hl
  clear hl
  have HT : Try.prog.underlying 51 = some (.map 40 54) := by kernel_rfl
  have HBX := Lib.hid (runF_box l 0 noF_box)
  go_enter Try.func15, Try.ntmps15
  have H := HS.start NoD w
  go_upto_region 2 with fail
  generalize hwb : World.alloc _ _ = w3
  replace H := HS.eqW hwb H.allocObj
  clear hwb
  simp only [List.nil_append] at H
  generalize w.heap.size = bM at H ⊢
  skip
  try clear C
  try simp only [World.size_alloc, List.nil_append, List.cons_append, List.append_assoc] at H
  have C := H.cells
  try simp only [cellsOf, cellsM, apartOf, apartM, and_true] at C
  go_wp2_with fail
  go_loopw [4, 5, 11] (fun _ _ jj wr => ∃ (j : Nat) (es : Array MapEntry) (ck : Nat) (M : List ((Int × Int) × Value)), jj = .int .i64 j ∧ j ≤ l.length ∧ Hid (MapG kU es ck M) ∧ Hid (∀ x, getG x M = (runF 0 (l.take j) noF x).map vQ) ∧ HS NoD w [.obj bM (.map es ck)] wr) (fun _ _ jj _ => l.length - (intOf jj).toNat)
  case atStart => exact ⟨0, #[], 0, [], rfl, Nat.zero_le _, MapG.nil kU, fun _ => rfl, H⟩
  case round =>
    clear H C
    obtain ⟨j, es, ck, M, rfl, hj, HM, HF, H⟩ := hrel
    skip
    try clear C
    try simp only [World.size_alloc, List.nil_append, List.cons_append, List.append_assoc] at H
    have C := H.cells
    try simp only [cellsOf, cellsM, apartOf, apartM, and_true] at C
    by_cases hlt : j < l.length
    · obtain ⟨b, o, rfl, hb, d0, d1, d2, d3, d4, d5⟩ := oxCells (H.lies HL.out) hlt
      have HRS := Lib.hid (runF_step hlt)
      obtain ⟨y, hy⟩ : ∃ y, y = l[j]! := ⟨_, rfl⟩
      rw [← hy] at HRS d0 d1 d2 d3 d4 d5
      clear hy
      have HDA := Lib.hid (fun f w hm => do_any (b := bM) (f := f) j y w hm)
      obtain ⟨yk, yp, yg, yw, yo, ysa, yn, yc⟩ := y
      dsimp only at d0 d1 d2 d3 d4 d5
      have hbl : b < wr.heap.size := Nat.lt_of_lt_of_le hb H.size
      have q1 : (b = wr.heap.size) = False := eq_false (by omega)
      have q2 : (wr.heap.size = b) = False := eq_false (by omega)
      go_upto_region 5 with fail
      clear d0 d1 d2 d3 d4 d5 q1 q2 hbl hb
      generalize hwb : wr.alloc _ = w1
      replace H := HS.eqW hwb H.alloc
      try simp only [World.size_alloc, List.nil_append, List.cons_append, List.append_assoc] at H
      clear hwb
      generalize wr.heap.size = bO at H ⊢
      try clear C
      try clear wr
      have C := H.cells
      try simp only [cellsOf, cellsM, apartOf, apartM, and_true] at C
      go_wp2_with fail
      refine (HDA.out _ _ ⟨es, ck, M, H.at 0 rfl, HM.out, HF.out⟩).mono ?_
      rintro _ w8 ⟨rfl, hm8, hg8⟩
      obtain ⟨es8, c8, M8, H8, hM8, hf8⟩ := H.mapAt 0 rfl hg8 hm8
      clear H C hm8 hg8 HDA
      simp only [List.set_cons_zero] at H8
      have H := H8
      clear H8
      skip
      try clear C
      try simp only [World.size_alloc, List.nil_append, List.cons_append, List.append_assoc] at H
      have C := H.cells
      try simp only [cellsOf, cellsM, apartOf, apartM, and_true] at C
      go_wp2_with fail
      go_roundw
      case rel => exact ⟨j + 1, es8, c8, M8, by go_num, by omega, hM8, (show Hid _ from fun x => by rw [HRS.out]; exact hf8 x), HS.less H (by repeat (first | exact .slnil | refine .cons_cons _ ?_ | refine .cons _ ?_))⟩
      case measure => simp [intOf]; omega
    · obtain rfl : j = l.length := by omega
      clear hlt hj
      have HF2 := Lib.hid (show ∀ x, getG x M = (runF 0 l noF x).map vQ from fun x => by have := HF.out x; rwa [List.take_length] at this)
      clear HF
      go_upto_region 8 with fail
      go_upto_region 9 with (at_range; refine wpList_range_G rfl (.tmp 21) 51 rfl HT H 0 rfl rfl ?_; clear H C; intro H)
      try simp only [List.nil_append, List.cons_append] at H
      generalize hwb : wr.alloc _ = w5 at H ⊢
      clear hwb
      generalize wr.heap.size = r at H ⊢
      have hn := H.nilRow 40 2
      clear H
      have H := hn
      clear hn
      try simp only [List.nil_append, List.cons_append] at H
      go_frame
      go_loopw [6, 7] (fun u _ wr => ∃ (seen : Array Nat) (us : List (Int × Int)), Hid (Came (runF 0 l noF) es seen us) ∧ HS NoD w [.obj bM (.map es ck), .obj r (.mapIter (some bM) ck seen ck), .row u 40 2 us.length (us.flatMap encU)] wr) (fun _ _ wr => itLeftG es r wr)
      case atStart => exact ⟨#[], [], ⟨List.nodup_nil, fun x hx => absurd hx List.not_mem_nil, fun x hx => absurd hx List.not_mem_nil, SeenG.nil _ _⟩, H⟩
      case round =>
        clear H
        obtain ⟨seen, us, HCA, H⟩ := hrel
        skip
        try clear C
        try simp only [World.size_alloc, List.nil_append, List.cons_append, List.append_assoc] at H
        have C := H.cells
        try simp only [cellsOf, cellsM, apartOf, apartM, and_true] at C
        have hul : us.length ≤ 999000 := box_len HCA.out.nodup fun x hx => HBX.out x.1 x.2 (HCA.out.some x hx)
        go_upto_region 10 with (at_next; refine wpList_next_G rfl (.tmp 22) rfl H 0 1 HM.out rfl rfl rfl (by decide) (Nat.le_refl _) (fun hdone => unhid ?_) (fun x v e wz he hke hve hmM hltn HZ hen => ?_))
        · have HD := Lib.hid hdone
          clear hdone
          obtain ⟨s1, d1, hu⟩ := ownsRow_slice (H.at 2 rfl)
          subst hu
          refine Lib.hid ?_
          go_wp2_with fail
          refine (sortUse_any (by omega) _ (H.at 2 rfl)).mono ?_
          rintro _ w9 ⟨rfl, ts, hp, hs, hr, hg⟩
          have H9 := H.grownAt 2 rfl hg (.inr ⟨hr, fun k hk => .inl hk⟩)
          clear H C hr hg
          simp only [List.set_cons_succ, List.set_cons_zero] at H9
          have H := H9
          clear H9
          have HU := Lib.hid (HCA.out.uq HM.out HF2.out HD.out hp hs)
          have hlen := hp.length_eq
          clear hp hs
          skip
          try clear C
          try simp only [World.size_alloc, List.nil_append, List.cons_append, List.append_assoc] at H
          have C := H.cells
          try simp only [cellsOf, cellsM, apartOf, apartM, and_true] at C
          go_wp2_with fail
          go_ret
          exact ⟨ts, _, rfl, HU.out, by omega, by rw [hlen]; exact HS.less H (by repeat (first | exact .slnil | refine .cons_cons _ ?_ | refine .cons _ ?_))⟩
        · have HOLD := Lib.hid (itLeftG_of (es := es) (H.at 1 rfl))
          obtain ⟨q, hfq, rfl⟩ := getG_some HM.out.keys HF2.out hmM
          have HST := Lib.hid (HCA.out.step HM.out he hke (by rw [hfq]; simp) hltn)
          clear H C
          have H := HZ
          clear HZ
          simp only [List.set_cons_succ, List.set_cons_zero] at H
          obtain ⟨ya, yb⟩ := x
          have HEN := Lib.hid hen
          clear hmM hfq hen he hke hve
          skip
          try clear C
          try simp only [World.size_alloc, List.nil_append, List.cons_append, List.append_assoc] at H
          have C := H.cells
          try simp only [cellsOf, cellsM, apartOf, apartM, and_true] at C
          go_step
          refine wpList_entry_G rfl (.tmp 22) rfl rfl HEN.out ?_
          clear HEN
          dsimp only [kU]
          go_upto_region 11 with fail
          generalize hwb : wz.alloc _ = w2
          replace H := HS.eqW hwb H.alloc
          try simp only [World.size_alloc, List.nil_append, List.cons_append, List.append_assoc] at H
          clear hwb
          generalize wz.heap.size = b7 at H ⊢
          try clear C
          try clear wz
          have C := H.cells
          try simp only [cellsOf, cellsM, apartOf, apartM, and_true] at C
          go_wp2_with (at_builtin; refine wpList_append_H rfl (.tmp 27) (.tmp 29) 32 rfl elemUse H.alloc 2 rfl rfl 4 rfl rfl rfl rfl (by decide) (by unfold maxLen; omega) (by omega) (fun g cap wy HZ => ?_); clear H C)
          try go_frame
          go_roundw
          case rel =>
            refine ⟨seen.push e.born, us ++ [(ya, yb)], HST, ?_⟩
            rw [List.length_append, List.flatMap_append]
            exact HS.less HZ (by repeat (first | exact .slnil | refine .cons_cons _ ?_ | refine .cons _ ?_))
          case measure => rw [itLeftG_of (HZ.at 1 rfl), HOLD.out]; exact hltn
end Go.Proofs.Ythpoanlmaafanaa
