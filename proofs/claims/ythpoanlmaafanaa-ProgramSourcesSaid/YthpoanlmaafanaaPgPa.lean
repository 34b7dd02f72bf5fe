/- memfaultref40.Pages: which pages there are in the end, by the reference. -/
import Derived.Test.YthpoanlmaafanaaPgPl
namespace Go.Proofs.Ythpoanlmaafanaa
set_option linter.unusedSimpArgs false
set_option linter.unusedVariables false
open Go.RowKit
set_option maxRecDepth 100000
attribute [local irreducible] wpX wpF Calls

/-- The pages ahead of a place, in order, each once. -/
structure UqT (f : PgF) (z : Int × Int) (us : List (Int × Int)) : Prop where
  asc : us.Pairwise lexU
  mem : ∀ x, x ∈ us ↔ f x ≠ none ∧ lexU x z
theorem UqT.start {f : PgF} (hb : BoxF f) : UqT f (1, 0) [] := ⟨.nil, fun x => by
  constructor
  · intro h; cases h
  · rintro ⟨h1, h2⟩
    obtain ⟨a, b⟩ := x
    have := hb a b h1
    unfold lexU at h2
    dsimp only at h2
    omega⟩
theorem UqT.skip {f : PgF} {p g : Int} {us : List (Int × Int)} (h : UqT f (p, g) us) (hf : f (p, g) = none) : UqT f (p, g + 1) us := ⟨h.asc, fun x => by
  rw [h.mem]
  obtain ⟨a, b⟩ := x
  unfold lexU
  dsimp only
  constructor
  · rintro ⟨h1, h2⟩; exact ⟨h1, by omega⟩
  · rintro ⟨h1, h2⟩
    refine ⟨h1, ?_⟩
    by_cases e : a = p ∧ b = g
    · obtain ⟨rfl, rfl⟩ := e; exact absurd hf h1
    · omega⟩
theorem UqT.step {f : PgF} {p g : Int} {us : List (Int × Int)} (h : UqT f (p, g) us) (hf : f (p, g) ≠ none) : UqT f (p, g + 1) (us ++ [(p, g)]) := ⟨by
  rw [List.pairwise_append]
  refine ⟨h.asc, List.pairwise_singleton _ _, fun x hx y hy => ?_⟩
  cases List.mem_singleton.1 hy
  exact ((h.mem x).1 hx).2, fun x => by
  rw [List.mem_append, h.mem, List.mem_singleton]
  obtain ⟨a, b⟩ := x
  unfold lexU
  dsimp only
  constructor
  · rintro (⟨h1, h2⟩ | h1)
    · exact ⟨h1, by omega⟩
    · injection h1 with e1 e2
      subst e1 e2
      exact ⟨hf, by omega⟩
  · rintro ⟨h1, h2⟩
    by_cases e : a = p ∧ b = g
    · obtain ⟨rfl, rfl⟩ := e; exact .inr rfl
    · exact .inl ⟨h1, by omega⟩⟩
theorem UqT.next {f : PgF} (hb : BoxF f) {p : Int} {us : List (Int × Int)} (h : UqT f (p, 1000) us) : UqT f (p + 1, 0) us := ⟨h.asc, fun x => by
  rw [h.mem]
  obtain ⟨a, b⟩ := x
  unfold lexU
  dsimp only
  constructor
  · rintro ⟨h1, h2⟩; exact ⟨h1, by omega⟩
  · rintro ⟨h1, h2⟩
    have := hb a b h1
    exact ⟨h1, by omega⟩⟩
theorem UqT.none {f : PgF} (hb : BoxF f) {p : Int} {us : List (Int × Int)} (h : UqT f (p, 0) us) (hn : ∀ g, f (p, g) = none) : UqT f (p + 1, 0) us := ⟨h.asc, fun x => by
  rw [h.mem]
  obtain ⟨a, b⟩ := x
  unfold lexU
  dsimp only
  constructor
  · rintro ⟨h1, h2⟩; exact ⟨h1, by omega⟩
  · rintro ⟨h1, h2⟩
    have h3 := hb a b h1
    by_cases e : a = p
    · subst e; exact absurd (hn b) h1
    · exact ⟨h1, by omega⟩⟩
theorem UqT.done {f : PgF} (hb : BoxF f) {us : List (Int × Int)} (h : UqT f (1000, 0) us) : Uq f us := ⟨h.asc, fun x => by
  rw [h.mem]
  constructor
  · exact fun h => h.1
  · intro h1
    obtain ⟨a, b⟩ := x
    have := hb a b h1
    exact ⟨h1, by unfold lexU; dsimp only; omega⟩⟩
theorem UqT.len {f : PgF} (hb : BoxF f) {z : Int × Int} {us : List (Int × Int)} (h : UqT f z us) : us.length ≤ 999000 :=
  box_len (lexU_nodup h.asc) fun x hx => hb x.1 x.2 ((h.mem x).1 hx).1
theorem doF_who {i : Int} {x : Ox} {f : PgF} {y : Int × Int} (h : doF i x f y ≠ none) : f y ≠ none ∨ x.p = y.1 ∨ x.o = y.1 := by
  unfold doF at h
  split at h
  · exact .inl h
  · split at h
    · dsimp only at h
      split at h
      · rename_i h1; exact .inr (.inl (by rw [h1.1]))
      · exact .inl h
    · split at h
      · dsimp only at h
        split at h
        · exact absurd rfl h
        · exact .inl h
      · split at h
        · dsimp only at h
          split at h
          · rename_i h1; exact .inr (.inl (by rw [h1]))
          · exact .inl h
        · split at h
          · unfold forkF at h
            split at h
            · rename_i h1; exact .inr (.inr h1.symm)
            · exact .inl h
          · exact .inl h
theorem runF_who : ∀ (l : List Ox) (k : Nat) (f : PgF) (y : Int × Int), runF k l f y ≠ none → f y ≠ none ∨ ∃ x ∈ l, x.p = y.1 ∨ x.o = y.1
  | [], _, _, _, h => .inl h
  | x :: l, k, f, y, h => by
    rcases runF_who l (k + 1) _ y h with h1 | ⟨z, hz, h1⟩
    · rcases doF_who h1 with h2 | h2
      · exact .inl h2
      · exact .inr ⟨x, by simp, h2⟩
    · exact .inr ⟨z, by simp [hz], h1⟩
def whoB (p : Int) (x : Ox) : Bool := x.p == p || x.o == p
theorem runF_any {l : List Ox} {p : Int} (h : l.any (whoB p) = false) (g : Int) : runF 0 l noF (p, g) = none := by
  refine Classical.byContradiction fun hn => ?_
  rcases runF_who l 0 noF (p, g) hn with h1 | ⟨z, hz, h1⟩
  · exact h1 rfl
  · have : l.any (whoB p) = true := List.any_eq_true.2 ⟨z, hz, by unfold whoB; simpa using h1⟩
    rw [h] at this
    cases this
theorem takeX {l : List Ox} {j : Nat} (h : j < l.length) (p : Ox → Bool) : (l.take (j + 1)).any p = ((l.take j).any p || p l[j]!) := by
  rw [List.take_add_one, List.getElem?_eq_getElem h, getElem!_pos l j h, List.any_append]; simp
set_option maxHeartbeats 16000000 in
theorem rpages_any {l : List Ox} (hx : l.length ≤ 1000000) {sa : Option Addr} (c : Nat) (w : World) (hl : Lies w w.heap.size sa 6 l.length (fun j => oxC l[j]!)) :
    Calls Try.prog 16 #[.slice sa l.length c] w (GivesPg (runF 0 l noF) w) := by
  have HL := Lib.hid hl
  clear hl
  have HPL := Lib.hid (fun wx hx' => rplay_any (l := l) hx (sa := sa) c wx hx')
  have HT : Try.prog.underlying 57 = some (.map 40 53) := by kernel_rfl
  have HE : ∀ w, (zeroValue 53).run Try.prog w = .ok (.agg #[.int .i64 0, .int .i64 0, .int .i64 0, .int .i64 0]) w := fun w => by rfl
  have HBX := Lib.hid (runF_box l 0 noF_box)
  have HWH := Lib.hid (fun p h g => runF_any (l := l) (p := p) h g)
  generalize runF 0 l noF = f at HPL HBX HWH ⊢
  go_enter Try.func16, Try.ntmps16
  have H := HS.start NoD w
  go_wp2_with fail
  refine (HPL.out _ (H.liesUp HL.out)).mono ?_
  rintro _ w1 ⟨bM, es, ck, M, rfl, hM, hG, K⟩
  replace H := H.join K (fun A hA => by simp only [List.mem_cons, List.mem_nil_iff, or_false] at hA; rcases hA with rfl; rfl)
  simp only [List.nil_append] at H
  have HM := Lib.hid hM
  have HG := Lib.hid hG
  clear hM hG K HPL
  have hn := H.nilRow 40 2
  clear H
  have H := hn
  clear hn
  simp only [List.nil_append, List.cons_append] at H
  skip
  try clear C
  try simp only [World.size_alloc, List.nil_append, List.cons_append, List.append_assoc] at H
  have C := H.cells
  try simp only [cellsOf, cellsM, apartOf, apartM, and_true] at C
  dsimp only
  go_wp2_with fail
  go_loopw [4, 5] (fun u pp wr => ∃ (p : Nat) (us : List (Int × Int)), pp = .int .i64 p ∧ 1 ≤ p ∧ p ≤ 1000 ∧ Hid (UqT f ((p : Int), 0) us) ∧ HS NoD w [.obj bM (.map es ck), .row u 40 2 us.length (us.flatMap encU)] wr) (fun _ pp _ => 1000 - (intOf pp).toNat)
  case atStart => exact ⟨1, [], rfl, by omega, by omega, UqT.start HBX.out, H⟩
  case round =>
    clear H C
    obtain ⟨p, us, rfl, hp1, hp2, HU, H⟩ := hrel
    skip
    try clear C
    try simp only [World.size_alloc, List.nil_append, List.cons_append, List.append_assoc] at H
    have C := H.cells
    try simp only [cellsOf, cellsM, apartOf, apartM, and_true] at C
    skip
    by_cases hp : p < 1000
    · have hp3 : (p : Int) ≤ 999 := by omega
      go_wp2_with fail
      go_loopw [6, 8, 20] (fun aa _ jj wr => ∃ (j : Nat), jj = .int .i64 j ∧ j ≤ l.length ∧ aa = .bool ((l.take j).any (whoB p)) ∧ HS NoD w [.obj bM (.map es ck), .row u4 40 2 us.length (us.flatMap encU)] wr) (fun _ _ jj _ => l.length - (intOf jj).toNat)
      case atStart => exact ⟨0, rfl, Nat.zero_le _, by simp, H⟩
      case round =>
        clear H C
        obtain ⟨j, rfl, hj, rfl, H⟩ := hrel
        skip
        try clear C
        try simp only [World.size_alloc, List.nil_append, List.cons_append, List.append_assoc] at H
        have C := H.cells
        try simp only [cellsOf, cellsM, apartOf, apartM, and_true] at C
        skip
        by_cases hlt : j < l.length
        · obtain ⟨b, o, rfl, hb, d0, d1, d2, d3, d4, d5⟩ := oxCells (H.lies HL.out) hlt
          have HTX := Lib.hid (takeX hlt (whoB p))
          obtain ⟨y, hy⟩ : ∃ y, y = l[j]! := ⟨_, rfl⟩
          rw [← hy] at HTX d0 d1 d2 d3 d4 d5
          clear hy
          obtain ⟨yk, yp, yg, yw, yo, ysa, yn, yc⟩ := y
          dsimp only [whoB] at HTX d0 d1 d2 d3 d4 d5
          have hbl : b < wr.heap.size := Nat.lt_of_lt_of_le hb H.size
          have q1 : (b = wr.heap.size) = False := eq_false (by omega)
          have q2 : (wr.heap.size = b) = False := eq_false (by omega)
          go_upto_region 10 with fail
          clear d0 d1 d2 d3 d4 d5 q1 q2 hbl hb
          generalize hwb : wr.alloc _ = w1
          replace H := HS.eqW hwb H.alloc
          try simp only [World.size_alloc, List.nil_append, List.cons_append, List.append_assoc] at H
          clear hwb
          generalize wr.heap.size = bO at H ⊢
          try clear C
          try clear wr
          have C := H.cells
          try simp only [cellsOf, cellsM, apartOf, apartM, and_true] at C
          generalize (l.take j).any (whoB p) = ha at HTX ⊢
          skip
          cases ha with
          | true =>
            go_wp2_with fail
            go_roundw
            case rel => exact ⟨j + 1, by go_num, by omega, by rw [HTX.out]; simp, HS.less H (by repeat (first | exact .slnil | refine .cons_cons _ ?_ | refine .cons _ ?_))⟩
            case measure => simp [intOf]; omega
          | false =>
            skip
            by_cases h1 : yp = p
            · have h1b : (yp == (p : Int)) = true := beq_iff_eq.2 h1
              have H1 := Lib.hid h1
              clear h1
              go_wp2_with fail
              go_roundw
              case rel => exact ⟨j + 1, by go_num, by omega, by rw [HTX.out, h1b]; rfl, HS.less H (by repeat (first | exact .slnil | refine .cons_cons _ ?_ | refine .cons _ ?_))⟩
              case measure => simp [intOf]; omega
            · have h1b : (yp == (p : Int)) = false := beq_eq_false_iff_ne.2 h1
              by_cases h2 : yo = p
              · have h2b : (yo == (p : Int)) = true := beq_iff_eq.2 h2
                have H1 := Lib.hid h2
                clear h2
                skip
                go_wp2_with fail
                go_roundw
                case rel => exact ⟨j + 1, by go_num, by omega, by rw [HTX.out, h1b, h2b]; rfl, HS.less H (by repeat (first | exact .slnil | refine .cons_cons _ ?_ | refine .cons _ ?_))⟩
                case measure => simp [intOf]; omega
              · have h2b : (yo == (p : Int)) = false := beq_eq_false_iff_ne.2 h2
                skip
                go_wp2_with fail
                go_roundw
                case rel => exact ⟨j + 1, by go_num, by omega, by rw [HTX.out, h1b, h2b]; rfl, HS.less H (by repeat (first | exact .slnil | refine .cons_cons _ ?_ | refine .cons _ ?_))⟩
                case measure => simp [intOf]; omega
        · obtain rfl : j = l.length := by omega
          rw [List.take_length]
          have HW2 := Lib.hid (HWH.out p)
          clear hlt hj
          generalize l.any (whoB p) = ha at HW2 ⊢
          skip
          skip
          cases ha with
          | false =>
            have HUN := Lib.hid (HU.out.none HBX.out (HW2.out rfl))
            go_wp2_with fail
            go_loopw [4, 9] (fun u gg wr => gg = .int .i64 0 ∧ HS NoD w [.obj bM (.map es ck), .row u 40 2 us.length (us.flatMap encU)] wr) (fun _ _ _ => 0)
            case atStart => exact ⟨rfl, H⟩
            case round =>
              clear H C
              obtain ⟨rfl, H⟩ := hrel
              skip
              try clear C
              try simp only [World.size_alloc, List.nil_append, List.cons_append, List.append_assoc] at H
              have C := H.cells
              try simp only [cellsOf, cellsM, apartOf, apartM, and_true] at C
              go_wp2_with fail
              go_roundw
              case rel => exact ⟨p + 1, us, by go_num, by omega, by omega, HUN, H⟩
              case measure => simp [intOf]; omega
          | true =>
            clear HW2
            skip
            go_wp2_with fail
            go_loopw [4, 9] (fun u gg wr => ∃ (g : Nat) (us : List (Int × Int)), gg = .int .i64 g ∧ g ≤ 1000 ∧ Hid (UqT f ((p : Int), (g : Int)) us) ∧ HS NoD w [.obj bM (.map es ck), .row u 40 2 us.length (us.flatMap encU)] wr) (fun _ gg _ => 1000 - (intOf gg).toNat)
            case atStart => exact ⟨0, us, rfl, by omega, HU, H⟩
            case round =>
              clear H C HU
              obtain ⟨g, us, rfl, hg, HU, H⟩ := hrel
              skip
              try clear C
              try simp only [World.size_alloc, List.nil_append, List.cons_append, List.append_assoc] at H
              have C := H.cells
              try simp only [cellsOf, cellsM, apartOf, apartM, and_true] at C
              skip
              by_cases hg1 : g < 1000
              · have hg3 : (g : Int) ≤ 999 := by omega
                have hul := HU.out.len HBX.out
                obtain ⟨q0, q1, q2, q3, ok, hqv, hqo, hqf⟩ : ∃ q0 q1 q2 q3 ok, (getG ((p : Int), (g : Int)) M).getD (.agg #[.int .i64 0, .int .i64 0, .int .i64 0, .int .i64 0]) = .agg #[.int .i64 q0, .int .i64 q1, .int .i64 q2, .int .i64 q3] ∧ (getG ((p : Int), (g : Int)) M).isSome = ok ∧ f ((p : Int), (g : Int)) = if ok = true then some ⟨q0, q1, q2, q3⟩ else none := by
                  have h1 := HG.out ((p : Int), (g : Int))
                  cases hq : f ((p : Int), (g : Int)) with
                  | none => rw [hq] at h1; rw [h1]; exact ⟨0, 0, 0, 0, false, rfl, rfl, rfl⟩
                  | some q => rw [hq] at h1; rw [h1]; obtain ⟨q0, q1, q2, q3⟩ := q; exact ⟨q0, q1, q2, q3, true, rfl, rfl, rfl⟩
                have HQV := Lib.hid hqv
                have HQO := Lib.hid hqo
                have HQF := Lib.hid hqf
                clear hqv hqo hqf
                go_upto_region 16 with (at_lookup; refine wpList_lookup_G rfl (.tmp 46) (.tmp 49) rfl HT keyU HE H 0 rfl HM.out rfl (n := ((p : Int), (g : Int))) rfl HQV.out HQO.out ?_)
                generalize hwb : wr.alloc _ = w2
                replace H := HS.eqW hwb H.alloc
                try simp only [World.size_alloc, List.nil_append, List.cons_append, List.append_assoc] at H
                clear hwb
                generalize wr.heap.size = bF at H ⊢
                try clear C
                try clear wr
                have C := H.cells
                try simp only [cellsOf, cellsM, apartOf, apartM, and_true] at C
                skip
                cases ok with
                | false =>
                  have HUS := Lib.hid (HU.out.skip HQF.out)
                  go_wp2_with fail
                  go_roundw
                  case rel => exact ⟨g + 1, us, by go_num, by omega, HUS, HS.less H (by repeat (first | exact .slnil | refine .cons_cons _ ?_ | refine .cons _ ?_))⟩
                  case measure => simp [intOf]; omega
                | true =>
                  have HUS := Lib.hid (HU.out.step (by rw [HQF.out]; simp))
                  skip
                  go_upto_region 14 with (at_builtin; refine wpList_append_H rfl (.tmp 54) (.tmp 58) 32 rfl elemUse H.alloc 1 rfl rfl 3 rfl rfl rfl rfl (by decide) (by unfold maxLen; omega) (by omega) (fun g1 d1 wz HZ => ?_); clear H C)
                  simp only [List.nil_append, List.cons_append, List.append_assoc, List.set_cons_succ, List.set_cons_zero] at HZ
                  have H := HS.less (L' := [_, _]) HZ (by repeat (first | exact .slnil | refine .cons_cons _ ?_ | refine .cons _ ?_))
                  clear HZ
                  skip
                  try clear C
                  try simp only [World.size_alloc, List.nil_append, List.cons_append, List.append_assoc] at H
                  have C := H.cells
                  try simp only [cellsOf, cellsM, apartOf, apartM, and_true] at C
                  go_wp2_with fail
                  go_roundw
                  case rel =>
                    refine ⟨g + 1, us ++ [((p : Int), (g : Int))], by go_num, by omega, HUS, ?_⟩
                    rw [List.length_append, List.flatMap_append]
                    exact H
                  case measure => simp [intOf]; omega
              · obtain rfl : g = 1000 := by omega
                have HUN := Lib.hid (HU.out.next HBX.out)
                go_wp2_with fail
                go_roundw
                case rel => exact ⟨p + 1, us, by go_num, by omega, by omega, HUN, H⟩
                case measure => simp [intOf]; omega
    · obtain rfl : p = 1000 := by omega
      go_wp2_with fail
      go_ret
      exact ⟨us, _, rfl, HU.out.done HBX.out, HU.out.len HBX.out, HS.less H (by repeat (first | exact .slnil | refine .cons_cons _ ?_ | refine .cons _ ?_))⟩
end Go.Proofs.Ythpoanlmaafanaa
