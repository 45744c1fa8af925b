/-
  BitTexts is true for every field, list of cells and text: Format writes cells as the document says, Parse reads just such texts, and cells of a field are read back. Conditions: the listed variables of Go's library hold what its text lays.
-/
import Derived.Test.YthmfgbjimdondaaDoorT4
import Derived.Test.YthmfgbjimdondaaDoorT5
import Derived.Test.YthmfgbjimdondaaDoorT1
import Derived.Test.YthmfgbjimdondaaDoorRows
import Derived.Test.YthmfgbjimdondaaDoorTie
import Derived.Test.YthmfgbjimdondaaDoorCards
import Derived.ProofKit
import Derived.OpenShut
import Derived.LaidMore
import Derived.Lay
import Derived.SevenTiedAt
import Derived.Stop.Joined
import Derived.Stop.LaidErr
import Derived.Lib.LaidTab
import Derived.HandedShaped
import Derived.Deep.Slices
import Derived.Lib.SmallJoins
import Derived.Carry
import Derived.ChangeOld
import Derived.Shelf.Vars
/- The law BitTexts: Format writes cells as the document says, Parse reads just such texts, and cells of a field are read back. -/
namespace Go.Proofs.YthmfgbjimdondaaDoor.P
open Go.RowKit Go.Proofs.YthmfgbjimdondaaDoorW.PrintWords Go.Proofs.YthmfgbjimdondaaDoorW.PrintLast Go.Proofs.YthmfgbjimdondaaDoorW.PrintMore
set_option linter.unusedVariables false
set_option linter.unusedSimpArgs false

theorem same_any {A1 A2 : Option Addr} {c1 c2 : Nat} {l : List S36} {W : World} (h1 : Kd.C k36 W A1 l.length l) (hc1 : l.length ≤ c1) (h2 : Kd.C k36 W A2 l.length l) (hc2 : l.length ≤ c2) :
    Calls Tryd.prog 8 #[.slice A1 l.length c1, .slice A2 l.length c2] W fun e w' => e = .returned (.bool true) ∧ Below W.heap.size W w' := by
  obtain ⟨kk, hkk⟩ := (sameCells l h1.2.1 (cells_len h1)).rounds
  exact lightsieveref07_SameCells.calls kk A1 c1 l A2 c2 l true W h1 hc1 h2 hc2 hkk
theorem fit_any {A1 : Option Addr} {c1 : Nat} {l : List S36} {W : World} (h1 : Kd.C k36 W A1 l.length l) (hc1 : l.length ≤ c1) :
    Calls Tryd.prog 4 #[.slice A1 l.length c1] W fun e w' => e = .returned (.bool (fitB l)) ∧ Below W.heap.size W w' := by
  obtain ⟨kk, hkk⟩ := (fit_ev l h1.2.1).rounds
  exact lightsievelaw07_fit.calls kk A1 c1 l (fitB l) W h1 hc1 hkk
theorem parse_same {s : ByteArray} {r r' : List S36 × Int × Int} (h : if 65536 < s.size then r = ([], 0, 3) else ParseD [] 0 (linesB s.data.toList) r) (k : if 65536 < s.size then r' = ([], 0, 3) else ParseD [] 0 (linesB s.data.toList) r') : r' = r := by
  split at h
  · rename_i hs; rw [if_pos hs] at k; rw [h, k]
  · rename_i hs; rw [if_neg hs] at k; exact ParseD.unique _ _ _ _ _ k h
set_option maxHeartbeats 4000000 in
set_option maxRecDepth 100000 in
theorem bitTexts_any (n top : Int) (A1 : Option Addr) (c1 : Nat) (c : List S36) (s : ByteArray) (w : World) (hr : Kd.C k36 w A1 c.length c) (hc : c.length ≤ c1) (hL : Lays w) :
    Calls Tryd.prog 3 #[.agg #[.int .i64 n, .int .i64 top], .slice A1 c.length c1, .string s] w fun e w' => e = .returned (.bool true) ∧ Below w.heap.size w w' := by
  have hu := Tryd.underlying23
  have hbx := below_box w (.cells #[.int .i64 n, .int .i64 top] 23)
  have hb0 := blk_new w (.cells #[.int .i64 n, .int .i64 top] 23)
  have HFIT := Aside0.mk (fit_any (Kd.C_below hr hbx) hc)
  have HAW := Aside0.mk awake_any
  have HR := Aside0.mk (Kd.C_below hr hbx)
  have HC := Aside0.mk hc
  have HL : Aside0 (∀ W, Below (w.alloc (.cells #[.int .i64 n, .int .i64 top] 23)).heap.size (w.alloc (.cells #[.int .i64 n, .int .i64 top] 23)) W → Lays W) := ⟨fun W hW => hL.old (Old.of_below (below_step hbx hW))⟩
  have hcl : c.length ≤ 9223372036854775807 := hr.2.1
  have HROWS := Aside0.mk (cells_len hr)
  have HBX := Aside0.mk hbx
  have HX := Aside0.mk hb0
  have hx0 := blk_lt hb0
  clear hr hc hL hbx hb0
  cases hf : fitB c with
  | false =>
    rw [hf] at HFIT
    clear hf
    go_enter Tryd.func3, Tryd.ntmps3
    go_wp2_with (first
      | (go_at_call 4; refine HFIT.out.mono ?_; rintro e w1 ⟨rfl, hb1⟩; have HB1 := Aside0.mk hb1; clear hb1)
      | (go_at_call 5; refine (HAW.out _).mono ?_; rintro e w2 ⟨rfl, hb2⟩; have HB2 := Aside0.mk (below_step HB1.out hb2); clear hb2))
    go_ret
    exact ⟨rfl, below_step HBX.out HB2.out⟩
  | true =>
    rw [hf] at HFIT
    clear hf
    by_cases hs1 : 3000 < s.size
    · by_cases hs2 : s.size ≤ 65536
      · have hz1 : (3000 : Int) < (s.size : Int) := by omega
        have hz2 : (s.size : Int) ≤ 65536 := by omega
        clear hs1 hs2
        go_enter Tryd.func3, Tryd.ntmps3
        go_wp2_with (first
          | (go_at_call 4; refine HFIT.out.mono ?_; rintro e w1 ⟨rfl, hb1⟩; have HB1 := Aside0.mk hb1; clear hb1)
          | (go_at_call 5; refine (HAW.out _).mono ?_; rintro e w2 ⟨rfl, hb2⟩; have HB2 := Aside0.mk (below_step HB1.out hb2); clear hb2))
        go_ret
        exact ⟨rfl, below_step HBX.out HB2.out⟩
      -- MAIN
      · have hz1 : (3000 : Int) < (s.size : Int) := by omega
        have hz2 : ¬ (s.size : Int) ≤ 65536 := by omega
        clear hs1 hs2
        have HP1 : Aside0 (∀ W, Below (w.alloc (.cells #[.int .i64 n, .int .i64 top] 23)).heap.size (w.alloc (.cells #[.int .i64 n, .int .i64 top] 23)) W → Calls Tryd.prog 6 #[.string s] W (ParsePost s W)) := ⟨fun W hW => parse_any s W (HL.out _ hW)⟩
        have HQ1 : Aside0 (∀ W, Below (w.alloc (.cells #[.int .i64 n, .int .i64 top] 23)).heap.size (w.alloc (.cells #[.int .i64 n, .int .i64 top] 23)) W → Calls Tryd.prog 7 #[.string s] W (ParsePost s W)) := ⟨fun W hW => refParse_any s W (HL.out _ hW)⟩
        go_enter Tryd.func3, Tryd.ntmps3
        go_upto_region 3 with (go_at_call 4; refine HFIT.out.mono ?_; rintro e w1 ⟨rfl, hb1⟩; have HB1 := Aside0.mk hb1; clear hb1)
        go_upto_region 4 with (go_at_call 6; refine (HP1.out _ HB1.out).mono ?_; rintro e w2 ⟨v2, r, rfl, hR2, hp2, hb2⟩)
        obtain ⟨A2, c2, ev2, hl2, hC2⟩ := Kd.R_reads hR2
        subst ev2
        have HB2 := Aside0.mk (below_step HB1.out hb2)
        have HP2 := Aside0.mk hp2
        have HC2 := Aside0.mk hC2
        have HL2 := Aside0.mk hl2
        clear hR2 hp2 hb2 hC2 hl2
        go_upto_region 5 with (go_at_call 7; refine (HQ1.out _ HB2.out).mono ?_; rintro e w3 ⟨v3, r', rfl, hR3, hp3, hb3⟩)
        obtain rfl : r' = r := parse_same HP2.out hp3
        obtain ⟨A3, c3, ev3, hl3, hC3⟩ := Kd.R_reads hR3
        subst ev3
        have HB3 := Aside0.mk (below_step HB2.out hb3)
        have HS3 := Aside0.mk (same_any (Kd.C_below HC2.out hb3) HL2.out hC3 hl3)
        clear hR3 hp3 hb3 hC3 hl3 HC2 HL2
        go_upto_region 7 with (go_at_call 8; refine HS3.out.mono ?_; rintro e w4 ⟨rfl, hb4⟩; have HB4 := Aside0.mk (below_step HB3.out hb4); clear hb4)
        have HF4 := Aside0.mk (format_any A1 c1 c w4 (Kd.C_below HR.out HB4.out) HC.out (HL.out _ HB4.out).tab)
        go_upto_region 8 with (go_at_call 9; refine HF4.out.mono ?_; rintro e w5 ⟨rfl, hb5⟩; have HB5 := Aside0.mk (below_step HB4.out hb5); clear hb5)
        have HF5 := Aside0.mk (refFormat_any A1 c1 c w5 (Kd.C_below HR.out HB5.out) HC.out (HL.out _ HB5.out).tab HROWS.out)
        obtain ⟨tx, htx⟩ : ∃ tx : ByteArray, tx = ⟨(formatC c).toArray⟩ := ⟨_, rfl⟩
        rw [← htx]
        rw [← htx] at HF5
        have HTX := Aside0.mk htx
        clear htx HF4
        go_upto_region 10 with (go_at_call 10; refine HF5.out.mono ?_; rintro e w6 ⟨rfl, hb6⟩; have HB6 := Aside0.mk (below_step HB5.out hb6); clear hb6)
        have hv6 := fun v hv => bit_ValidCells.calls n top A1 c1 c v w6 (Kd.C_below HR.out HB6.out) HC.out hv
        have HTS : Aside0 (¬ 65536 < tx.size) := ⟨by
          have h1 := format_len c
          have h2 : tx.size = (formatC c).length := by rw [HTX.out]; rfl
          omega⟩
        have hy := (HB6.out.block _ hx0).trans HX.out
        have y0 : w6.cell? ⟨w.heap.size, 0, none⟩ = some (.int .i64 n) := (blk_cell hy 0).trans rfl
        have y1 : w6.cell? ⟨w.heap.size, 1, none⟩ = some (.int .i64 top) := (blk_cell hy 1).trans rfl
        clear hy
        cases hv : (fieldB n top && decide (c.length ≤ 30) && cellsB n c) with
        | false =>
          have hv7 := hv6 _ (show bit_ValidCells.f n top c = some false by unfold bit_ValidCells.f; rw [hv])
          clear hv hv6
          go_wp2_with (first
            | (go_at_call 11; refine hv7.mono ?_; rintro e w7 ⟨rfl, hb7⟩; have HB7 := Aside0.mk (below_step HB6.out hb7); clear hb7)
            | (go_at_call 5; refine (HAW.out _).mono ?_; rintro e w8 ⟨rfl, hb8⟩; have HB8 := Aside0.mk (below_step HB7.out hb8); clear hb8))
          go_ret
          exact ⟨rfl, below_step HBX.out HB8.out⟩
        | true =>
          have hv7 := hv6 _ (show bit_ValidCells.f n top c = some true by unfold bit_ValidCells.f; rw [hv])
          have HLB := Aside0.mk (valid_listed hv)
          clear hv hv6
          go_upto_region 12 with (go_at_call 11; refine hv7.mono ?_; rintro e w7 ⟨rfl, hb7⟩; have HB7 := Aside0.mk (below_step HB6.out hb7); clear hb7)
          have HP7 := Aside0.mk (parse_any tx w7 (HL.out _ HB7.out))
          clear hv7 y0 y1
          go_upto_region 13 with (go_at_call 6; refine HP7.out.mono ?_; rintro e w8 ⟨v8, r8, rfl, hR8, hp8, hb8⟩)
          rw [if_neg HTS.out] at hp8
          have hfb := format_back HLB.out
          have htl : tx.data.toList = formatC c := by rw [HTX.out]
          rw [htl] at hp8
          obtain rfl : r8 = (c, 0, 0) := ParseD.unique _ _ _ _ _ hp8 hfb
          obtain ⟨A8, c8, ev8, hl8, hC8⟩ := Kd.R_reads hR8
          subst ev8
          have HB8 := Aside0.mk (below_step HB7.out hb8)
          have HS8 := Aside0.mk (same_any (Kd.C_below HR.out HB8.out) HC.out hC8 hl8)
          clear hR8 hp8 hb8 hC8 hl8 hfb htl HP7
          go_wp2_with (first
            | (go_at_call 8; refine HS8.out.mono ?_; rintro e w9 ⟨rfl, hb9⟩; have HB9 := Aside0.mk (below_step HB8.out hb9); clear hb9)
            | (go_at_call 5; refine (HAW.out _).mono ?_; rintro e wa ⟨rfl, hba⟩; have HBA := Aside0.mk (below_step HB9.out hba); clear hba))
          go_ret
          exact ⟨rfl, below_step HBX.out HBA.out⟩
    · have hz1 : ¬ (3000 : Int) < (s.size : Int) := by omega
      clear hs1
      have HP1 : Aside0 (∀ W, Below (w.alloc (.cells #[.int .i64 n, .int .i64 top] 23)).heap.size (w.alloc (.cells #[.int .i64 n, .int .i64 top] 23)) W → Calls Tryd.prog 6 #[.string s] W (ParsePost s W)) := ⟨fun W hW => parse_any s W (HL.out _ hW)⟩
      have HQ1 : Aside0 (∀ W, Below (w.alloc (.cells #[.int .i64 n, .int .i64 top] 23)).heap.size (w.alloc (.cells #[.int .i64 n, .int .i64 top] 23)) W → Calls Tryd.prog 7 #[.string s] W (ParsePost s W)) := ⟨fun W hW => refParse_any s W (HL.out _ hW)⟩
      go_enter Tryd.func3, Tryd.ntmps3
      go_upto_region 3 with (go_at_call 4; refine HFIT.out.mono ?_; rintro e w1 ⟨rfl, hb1⟩; have HB1 := Aside0.mk hb1; clear hb1)
      go_upto_region 4 with (go_at_call 6; refine (HP1.out _ HB1.out).mono ?_; rintro e w2 ⟨v2, r, rfl, hR2, hp2, hb2⟩)
      obtain ⟨A2, c2, ev2, hl2, hC2⟩ := Kd.R_reads hR2
      subst ev2
      have HB2 := Aside0.mk (below_step HB1.out hb2)
      have HP2 := Aside0.mk hp2
      have HC2 := Aside0.mk hC2
      have HL2 := Aside0.mk hl2
      clear hR2 hp2 hb2 hC2 hl2
      go_upto_region 5 with (go_at_call 7; refine (HQ1.out _ HB2.out).mono ?_; rintro e w3 ⟨v3, r', rfl, hR3, hp3, hb3⟩)
      obtain rfl : r' = r := parse_same HP2.out hp3
      obtain ⟨A3, c3, ev3, hl3, hC3⟩ := Kd.R_reads hR3
      subst ev3
      have HB3 := Aside0.mk (below_step HB2.out hb3)
      have HS3 := Aside0.mk (same_any (Kd.C_below HC2.out hb3) HL2.out hC3 hl3)
      clear hR3 hp3 hb3 hC3 hl3 HC2 HL2
      go_upto_region 7 with (go_at_call 8; refine HS3.out.mono ?_; rintro e w4 ⟨rfl, hb4⟩; have HB4 := Aside0.mk (below_step HB3.out hb4); clear hb4)
      have HF4 := Aside0.mk (format_any A1 c1 c w4 (Kd.C_below HR.out HB4.out) HC.out (HL.out _ HB4.out).tab)
      go_upto_region 8 with (go_at_call 9; refine HF4.out.mono ?_; rintro e w5 ⟨rfl, hb5⟩; have HB5 := Aside0.mk (below_step HB4.out hb5); clear hb5)
      have HF5 := Aside0.mk (refFormat_any A1 c1 c w5 (Kd.C_below HR.out HB5.out) HC.out (HL.out _ HB5.out).tab HROWS.out)
      obtain ⟨tx, htx⟩ : ∃ tx : ByteArray, tx = ⟨(formatC c).toArray⟩ := ⟨_, rfl⟩
      rw [← htx]
      rw [← htx] at HF5
      have HTX := Aside0.mk htx
      clear htx HF4
      go_upto_region 10 with (go_at_call 10; refine HF5.out.mono ?_; rintro e w6 ⟨rfl, hb6⟩; have HB6 := Aside0.mk (below_step HB5.out hb6); clear hb6)
      have hv6 := fun v hv => bit_ValidCells.calls n top A1 c1 c v w6 (Kd.C_below HR.out HB6.out) HC.out hv
      have HTS : Aside0 (¬ 65536 < tx.size) := ⟨by
        have h1 := format_len c
        have h2 : tx.size = (formatC c).length := by rw [HTX.out]; rfl
        omega⟩
      have hy := (HB6.out.block _ hx0).trans HX.out
      have y0 : w6.cell? ⟨w.heap.size, 0, none⟩ = some (.int .i64 n) := (blk_cell hy 0).trans rfl
      have y1 : w6.cell? ⟨w.heap.size, 1, none⟩ = some (.int .i64 top) := (blk_cell hy 1).trans rfl
      clear hy
      cases hv : (fieldB n top && decide (c.length ≤ 30) && cellsB n c) with
      | false =>
        have hv7 := hv6 _ (show bit_ValidCells.f n top c = some false by unfold bit_ValidCells.f; rw [hv])
        clear hv hv6
        go_wp2_with (first
          | (go_at_call 11; refine hv7.mono ?_; rintro e w7 ⟨rfl, hb7⟩; have HB7 := Aside0.mk (below_step HB6.out hb7); clear hb7)
          | (go_at_call 5; refine (HAW.out _).mono ?_; rintro e w8 ⟨rfl, hb8⟩; have HB8 := Aside0.mk (below_step HB7.out hb8); clear hb8))
        go_ret
        exact ⟨rfl, below_step HBX.out HB8.out⟩
      | true =>
        have hv7 := hv6 _ (show bit_ValidCells.f n top c = some true by unfold bit_ValidCells.f; rw [hv])
        have HLB := Aside0.mk (valid_listed hv)
        clear hv hv6
        go_upto_region 12 with (go_at_call 11; refine hv7.mono ?_; rintro e w7 ⟨rfl, hb7⟩; have HB7 := Aside0.mk (below_step HB6.out hb7); clear hb7)
        have HP7 := Aside0.mk (parse_any tx w7 (HL.out _ HB7.out))
        clear hv7 y0 y1
        go_upto_region 13 with (go_at_call 6; refine HP7.out.mono ?_; rintro e w8 ⟨v8, r8, rfl, hR8, hp8, hb8⟩)
        rw [if_neg HTS.out] at hp8
        have hfb := format_back HLB.out
        have htl : tx.data.toList = formatC c := by rw [HTX.out]
        rw [htl] at hp8
        obtain rfl : r8 = (c, 0, 0) := ParseD.unique _ _ _ _ _ hp8 hfb
        obtain ⟨A8, c8, ev8, hl8, hC8⟩ := Kd.R_reads hR8
        subst ev8
        have HB8 := Aside0.mk (below_step HB7.out hb8)
        have HS8 := Aside0.mk (same_any (Kd.C_below HR.out HB8.out) HC.out hC8 hl8)
        clear hR8 hp8 hb8 hC8 hl8 hfb htl HP7
        go_wp2_with (first
          | (go_at_call 8; refine HS8.out.mono ?_; rintro e w9 ⟨rfl, hb9⟩; have HB9 := Aside0.mk (below_step HB8.out hb9); clear hb9)
          | (go_at_call 5; refine (HAW.out _).mono ?_; rintro e wa ⟨rfl, hba⟩; have HBA := Aside0.mk (below_step HB9.out hba); clear hba))
        go_ret
        exact ⟨rfl, below_step HBX.out HBA.out⟩
end Go.Proofs.YthmfgbjimdondaaDoor.P
/- The law BitTexts: the row and the tied card. -/
namespace Go.Proofs.YthmfgbjimdondaaDoor.P
open Go.ChangeShapes Go.WideShapes Go.ChangeAt Go.RowKit Go.Deep Go.Joins Go.Proofs.YthmfgbjimdondaaDoorW.PrintWords Go.Proofs.YthmfgbjimdondaaDoorW.PrintLast Go.Proofs.YthmfgbjimdondaaDoorW.PrintMore
open Go.ChangeMaps (open_string shut_string)
set_option linter.unusedVariables false
set_option linter.unusedSimpArgs false

section
variable {H : Type} {enc : TypeId × Value → H} {W : World} {held : Bool} {fuel : Nat}
/-- A row of numbers that came in. -/
theorem row_open {A : Option Addr} {n c : Nat} {x : DataW H × List MemPlace} (h : DataW.trod enc Tryd.prog W 0 (fun _ => true) held fuel 34 [.slice A n c] = some x) :
    ∃ l : List Int, l.length = n ∧ n ≤ c ∧ Kd.C (Kd.int .i64) W A n l := by
  rcases open_ints Tryd.underlying34 Tryd.underlying3 (by kernel_rfl) h with ⟨hcs, _⟩ | ⟨a, len, cap, zs, hcs, _, hl, hm, hz, _, hcell, hwz⟩
  · simp at hcs
    obtain ⟨rfl, rfl, rfl⟩ := hcs
    exact ⟨[], rfl, Nat.le_refl _, ⟨rfl, by decide, fun h => absurd h (by decide)⟩⟩
  · simp at hcs
    obtain ⟨rfl, rfl, rfl⟩ := hcs
    simp only [if_true] at hz
    have hlen : (zs.take n).length = n := by rw [List.length_take]; omega
    refine ⟨zs.take n, hlen, hl, ⟨hlen, by unfold maxLen at hm; omega, fun _ => ⟨a, rfl, fun j p hj => ?_⟩⟩⟩
    have hjn : j < n := by rw [← hlen]; exact (List.getElem?_eq_some_iff.1 hj).1
    refine ⟨[.int .i64 p], rfl, rfl, fun i u hi => ?_⟩
    match i, hi with
    | 0, hi =>
      obtain rfl := Option.some.inj hi
      have e := hcell j (by omega)
      rw [List.getElem?_take_of_lt hjn] at hj
      rw [show zs.getD j 0 = p by rw [List.getD_eq_getElem?_getD, hj]; rfl] at e
      show W.cell? (a.add (j * 1 + 0)) = _
      rw [Nat.mul_one, Nat.add_zero]
      exact e
set_option maxRecDepth 100000 in
/-- Cells that came in. -/
theorem cells_open {A : Option Addr} {n c : Nat} {x : DataW H × List MemPlace} (h : DataW.trod enc Tryd.prog W 0 (fun _ => true) held fuel 24 [.slice A n c] = some x) :
    ∃ l : List S36, l.length = n ∧ n ≤ c ∧ Kd.C k36 W A n l := by
  have ce : Tryd.prog.cellsOf 36 = 3 := by kernel_rfl
  have cs34 : Tryd.prog.cellsOf 34 = 1 := by kernel_rfl
  have c3 : Tryd.prog.cellsOf 3 = 1 := by kernel_rfl
  rcases open_slice Tryd.underlying24 h with ⟨hcs, _⟩ | ⟨a, len, cap, m, nf, D, Pl, hcs, hb, hl, hm, hmm, _, hx⟩
  · simp at hcs
    obtain ⟨rfl, rfl, rfl⟩ := hcs
    exact ⟨[], rfl, Nat.le_refl _, ⟨rfl, by decide, fun h => absurd h (by decide)⟩⟩
  · simp at hcs
    obtain ⟨rfl, rfl, rfl⟩ := hcs
    simp only [if_true] at hmm
    subst hmm
    haveI : Inhabited (S36 × List Value) := ⟨(z36, [])⟩
    have each : ∀ i, i < n → ∃ y : S36 × List Value, y.2.length = 3 ∧ k36.K W y.1 y.2 ∧ ∀ j u, y.2[j]? = some u → W.cell? (a.add (i * 3 + j)) = some u := by
      intro i hi
      obtain ⟨cs', h1, h2⟩ := hx i (by omega)
      rw [ce] at h1
      obtain ⟨_, hlen, hcell⟩ := World.cells?_some h1
      obtain ⟨xs, k, hk, hxy, _, hxl, hf⟩ := DataW.trod_struct Tryd.underlying36 h2
      match cs', hlen with
      | [v0, v1, v2], _ =>
        have g0 := hf 0 _ rfl
        have g1 := hf 1 _ rfl
        have g2 := hf 2 _ rfl
        match xs, hxl with
        | [y0, y1, y2], _ =>
        simp [cs34, c3] at g0 g1 g2
        obtain ⟨z1, e1, _⟩ := DataW.trod_int Tryd.underlying3 g1
        obtain ⟨z2, e2, _⟩ := DataW.trod_int Tryd.underlying3 g2
        simp at e1 e2
        subst e1
        subst e2
        obtain ⟨A0, n0, c0, rfl⟩ : ∃ A0 n0 c0, v0 = .slice A0 n0 c0 := by
          rcases open_ints Tryd.underlying34 Tryd.underlying3 c3 g0 with ⟨hcs, _⟩ | ⟨a', len', cap', zs, hcs, _⟩
          · simp at hcs; exact ⟨_, _, _, hcs⟩
          · simp at hcs; exact ⟨_, _, _, hcs⟩
        obtain ⟨l, hl0, hlc, hC⟩ := row_open g0
        subst hl0
        refine ⟨(⟨l, z1, z2⟩, [.slice A0 l.length c0, .int .i64 z1, .int .i64 z2]), rfl, k36_mk W ⟨l, z1, z2⟩ hlc hC, fun j u hj => ?_⟩
        have hjl : j < 3 := (List.getElem?_eq_some_iff.1 hj).1
        have := hcell j hjl
        rw [Deep.add_add] at this
        rw [this]
        exact hj
    obtain ⟨f, hf⟩ := choose_lt each
    refine ⟨(List.range n).map fun i => (f i).1, by simp, hl, ⟨by simp, by unfold maxLen at hm; omega, fun _ => ⟨a, rfl, fun j p hj => ?_⟩⟩⟩
    have hjn : j < n := by have := (List.getElem?_eq_some_iff.1 hj).1; simpa using this
    have hp : p = (f j).1 := by
      rw [List.getElem?_map, List.getElem?_range hjn] at hj
      exact (Option.some.inj hj).symm
    subst hp
    obtain ⟨q1, q2, q3⟩ := hf j hjn
    exact ⟨(f j).2, q1, q2, q3⟩
end
theorem own : ownKnob Tryd.prog.godebug = none := by kernel_rfl
theorem laidOut : laidOutB Tryd.prog = true := by kernel_rfl

/-- As 'returnsInHanded_of_change_and', the world's shape kept. -/
theorem handed_and_shaped {H : Type} {enc : TypeId × Value → H} {a : Assume} {C : Checked} {os : Os} {f : FuncId} {fn : Func} {s : ChangeSpec} {conds : List PathCond} {apart fresh handsOn again : Bool} {X : World → Array Value → Prop}
    (hX : ∀ (w w' : World) (args : Array Value), w.heap = w'.heap → X w args → X w' args)
    (own : ownKnob C.prog.godebug = none) (started : os.Started) (noInit : C.prog.inits.idxOf? f = none) (hfn : C.prog.funcs[f]? = some fn)
    (witness : ∃ (w : World) (tape : Tape) (i : Input), w.os = os ∧ (w.forCall tape i).Shaped C.prog ∧ i.vars = [] ∧ Input.okWide C.prog (w.forCall tape i) .any w.heap.size f i ∧
      ((s.pre enc C.prog fn conds apart (w.forCall tape i).memory i.args ∧ X (w.forCall tape i).memory i.args) ∧ sizedMet enc C.prog fn (OpenSpec.ofChange s) apart (w.forCall tape i).memory i.args) ∧ a.holds C.prog (lone (Frame.enter C.prog f i.args .normal) [] (w.forCall tape i)))
    (contract : ∀ (W : World) (base : Nat) (args : Array Value) (ds gs : List (DataW H)) (before : List MemPlace),
      (∀ (j : Nat) t v, fn.params[j]? = some t → args[j]? = some v → Value.okWide C.prog W .any base t v) →
      DataW.Whole enc C.prog fn.params.toList s.vars apart W args.toList ds gs before → X W args → W.ShapedOpen C.prog →
      Calls C.prog f args W fun e W' => ∃ v, e = .returned v ∧ s.post enc C.prog fn apart fresh handsOn again W args v W') :
    ReturnsInHanded a C os f .any (fun w args => (s.pre enc C.prog fn conds apart w args ∧ X w args) ∧ sizedMet enc C.prog fn (OpenSpec.ofChange s) apart w args) (s.post enc C.prog fn apart fresh handsOn again) := by
  refine returnsInHanded_of_calls own started noInit witness ?_
  intro w tape i _ hsh _ hok hpre hholds
  obtain ⟨_, _, _, fn', hfn', _, _, _, _, hval⟩ := hok
  have e : fn' = fn := Option.some.inj (hfn'.symm.trans hfn)
  subst e
  obtain ⟨⟨⟨ds, gs, before, hw, hc⟩, hx⟩, hz⟩ := hpre
  have hw' := DataW.Whole.of_heap (w' := w.forCall tape i) (by rfl) hw
  refine (contract (w.forCall tape i) w.heap.size i.args ds gs before hval hw' (hX _ _ _ (by rfl) hx) hsh).mono fun e W' ⟨v, he, hp⟩ => ?_
  subst he
  exact ChangeSpec.post_blind hp
theorem laid_error {W : World} {n nm : String} {d : DataW Unit} {r : List (String × DataW Unit)} {g : Nat} (hg : Tryd.prog.globalNamed n = some g) (ht : (Tryd.prog.globals[g]?).map (·.type) = some 50) (h : laidMet Tryd.prog ((n, .iface nm d) :: r) W) : ∃ tp p, W.cell? ⟨g, 0, none⟩ = some (.iface tp p) := by
  obtain ⟨ps, ⟨g0, t0, cs0, f0, p0, q0, hg0, ht0, hv0, hd0, _, _⟩, _, _⟩ := h
  obtain rfl := Option.some.inj (hg.symm.trans hg0)
  obtain rfl := Option.some.inj (ht.symm.trans ht0)
  obtain ⟨f1, u, v, e, _, _⟩ := iface_of_trod Tryd.underlying50 hd0
  have hc := World.var?_cell hg0 hv0 0
  obtain ⟨l0⟩ := cs0
  simp at e
  subst e
  exact ⟨u, v, hc⟩
theorem laid_split {W : World} (h : laidMetH Tryd.prog Rows.bitTextsRow.laid W) (hsh : W.ShapedOpen Tryd.prog) : Lays W := by
  rw [MakeChecks.laidMetH_plain _ _ _ (by kernel_rfl)] at h
  have h3 := h.tail.tail
  have h5 := h3.tail.tail
  have h6 := h5.tail
  refine ⟨?_, ?_, ?_, ?_⟩
  · exact Lib.tabIs_of_head (zs := Lib.pow10Tab) (k := .u64) (g := 5) (n := 20) (by kernel_rfl) (by kernel_rfl) Tryd.underlying132 Tryd.underlying104 (by kernel_rfl) (by kernel_rfl) h3
  · exact laid_error (by kernel_rfl) (by kernel_rfl) h6
  · exact laid_error (by kernel_rfl) (by kernel_rfl) h5
  · exact cell_of_shapedOpen_int (zero := #[.int .i64 0]) (t := 3) hsh (of_decide_eq_true (by kernel_rfl)) (by kernel_rfl) rfl (by kernel_rfl) (by kernel_rfl) Tryd.underlying3
set_option maxRecDepth 100000 in
theorem lifted (os : Os) (started : os.Started) (H : Type) (enc : TypeId × Value → H) :
    ReturnsInHanded {} Tryd.checked os 3 .any (fun w args => (Rows.bitTextsSpec.pre enc Tryd.prog Tryd.f3 Rows.bitTextsRow.domain false w args ∧ laidMetH Tryd.prog Rows.bitTextsRow.laid w) ∧ sizedMet enc Tryd.prog Tryd.f3 (OpenSpec.ofChange Rows.bitTextsSpec) false w args)
      (Rows.bitTextsSpec.post enc Tryd.prog Tryd.f3 false true false false) := by
  refine handed_and_shaped (C := Tryd.checked) (X := fun w _ => laidMetH Tryd.prog Rows.bitTextsRow.laid w) (fun _ _ _ hh h => h.of_heap hh) own started (by kernel_rfl) Tryd.func3
    (ChangeSpec.witness_shaped (enc := enc) (C := Tryd.checked) (os := os) (X := fun w _ => laidMetH Tryd.prog Rows.bitTextsRow.laid w) false (World.laidAll Tryd.prog os Rows.bitTextsRow.laid) #[.agg #[.int .i64 0, .int .i64 0], .slice none 0 0, .string ⟨#[]⟩] 8 (World.laidAll_os _ _ _)
      (World.shaped_of_ZipB (by kernel_rfl) (by kernel_rfl)) (by kernel_rfl) (by kernel_rfl) (by kernel_rfl)
      (by rw [MakeChecks.laidMetH_plain _ _ _ (by kernel_rfl)]; exact laidMet_laidAll _ (by kernel_rfl) (by kernel_rfl))) ?_
  intro W base args ds gs before hval0 hW hL hsh
  have hval : ∀ (j : Nat) t v, Tryd.f3.params[j]? = some t → args[j]? = some v → Value.okWide Tryd.prog W .any base t v := hval0
  have hW' := hW
  obtain ⟨p, q, hA0, hV, rfl, _, _⟩ := hW
  have hA : DataW.TrodAll enc Tryd.prog W 0 (fun _ => true) true Tryd.f3.params.toList args.toList ds p := hA0
  rw [Tryd.params3] at hA hval
  obtain ⟨v0, v1, v2, d0, d1, d2, p0, p1, p2, rfl, rfl, rfl, h0, h1, h2⟩ := trodAll_three hA
  obtain ⟨rfl, rfl⟩ := trodVars_none hV
  have k0 := h0
  have k1 := h1
  have k2 := h2
  have lt0 : ∀ x ∈ p0, x.block < W.heap.size := by obtain ⟨m, hm⟩ := k0; exact DataW.trod_lt m _ _ _ hm
  have lt1 : ∀ x ∈ p1, x.block < W.heap.size := by obtain ⟨m, hm⟩ := k1; exact DataW.trod_lt m _ _ _ hm
  have lt2 : ∀ x ∈ p2, x.block < W.heap.size := by obtain ⟨m, hm⟩ := k2; exact DataW.trod_lt m _ _ _ hm
  obtain ⟨c0, c1, y0, y1, m, rfl, _, _, hy0, hy1⟩ := open_agg2 Tryd.underlying23 (by kernel_rfl) (by kernel_rfl) (hval 0 23 v0 rfl rfl) h0
  obtain ⟨n, e0, _⟩ := DataW.trod_int Tryd.underlying3 hy0
  obtain ⟨top, e1, _⟩ := DataW.trod_int Tryd.underlying3 hy1
  simp at e0 e1
  subst e0
  subst e1
  obtain ⟨A1, len1, cap1, rfl⟩ := okWide_slice Tryd.underlying24 (hval 1 24 v1 rfl rfl)
  obtain ⟨l, hl, hlc, hC⟩ : ∃ l : List S36, l.length = len1 ∧ len1 ≤ cap1 ∧ Kd.C k36 W A1 len1 l := by
    obtain ⟨fuel, hf⟩ := h1
    exact cells_open (by simpa [Value.cells] using hf)
  subst hl
  obtain ⟨s, rfl, _, _, _⟩ := open_string Tryd.underlying9 (hval 2 9 v2 rfl rfl) h2
  clear hA0 hval0
  refine (bitTexts_any n top A1 cap1 l s W hC hlc (laid_split hL hsh)).mono fun e W' ⟨he, bel⟩ => ?_
  subst he
  exact ⟨_, rfl, _, _, _, [], _, [], hW', trodAll_mk1 (shut_bool Tryd.underlying4 _), trodAll_mk3 (Below.trod laidOut (by kernel_rfl) (of_decide_eq_true (by kernel_rfl)) k0 bel lt0) (Below.trod laidOut (by kernel_rfl) (of_decide_eq_true (by kernel_rfl)) k1 bel lt1) (Below.trod laidOut (by kernel_rfl) (of_decide_eq_true (by kernel_rfl)) k2 bel lt2), rfl, bel.frame _, fun h => by cases h⟩
theorem holds : Rows.BitTextsSaid :=
  OpenClaim.holds_of_wide 3 Tryd.f3 rfl rfl rfl rfl rfl rfl rfl ⟨rfl, rfl, rfl, rfl, rfl⟩ rfl rfl rfl rfl rfl (by kernel_rfl) Tryd.func3 (by kernel_rfl)
    (of_decide_eq_true (by kernel_rfl)) (by unfold Func.isWrapper; first | (rw [if_pos (by decide +kernel)]; kernel_rfl) | (rw [if_neg (by decide +kernel)]; exact ⟨rfl, rfl⟩))
    (fun os started H enc _ => lifted os started H enc)
end Go.Proofs.YthmfgbjimdondaaDoor.P
namespace Go.Proofs.YthmfgbjimdondaaDoor
open Go
theorem bitTexts_card : Rows.BitTextsCardSaid :=
  Claim7.holds_tied_plain_at .later [] [.data, .data, .data, .data, .sentinel, .sentinel, .pinned] true (true, "6f6485f82934a668b59fdc628c71f39db0e258f6ca2f7a3c287307422ad8bf09") true P.holds (fun _ h => by cases h) (by kernel_rfl) (fun _ h => by cases h) bitTexts_row_tie rfl ⟨rfl, rfl⟩ (by kernel_rfl) rfl
    (fun f fn hf hfn => by
      obtain rfl : f = 3 := Option.some.inj ((show Tryd.prog.funcNamed "lightsieve/lightsievelaw07.BitTexts" = some 3 by kernel_rfl).symm.trans hf) |>.symm
      obtain rfl : fn = Tryd.f3 := (Option.some.inj (Tryd.func3.symm.trans hfn)).symm
      exact ⟨by kernel_rfl, fun j t ht => by
        rw [Tryd.params3] at ht
        have hm : t ∈ [23, 24, 9] := by simpa using Array.mem_of_getElem? ht
        have hall : ([23, 24, 9].all fun u => !Tryd.prog.wantsStandIn u) = true := by kernel_rfl
        exact (show Tryd.prog.wantsStandIn t = false by simpa using List.all_eq_true.1 hall t hm)⟩)
    (by kernel_rfl)
#print axioms bitTexts_card
end Go.Proofs.YthmfgbjimdondaaDoor
