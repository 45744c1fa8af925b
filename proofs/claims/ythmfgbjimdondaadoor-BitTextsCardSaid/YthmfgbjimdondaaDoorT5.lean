/-
  The count and the sight that the law is awake by.
-/
import Derived.Test.YthmfgbjimdondaaDoorT3
import Derived.Test.YthmfgbjimdondaaDoorT2
import Derived.Test.YthmfgbjimdondaaDoorT1
import Derived.Test.YthmfgbjimdondaaDoorT4
import Derived.Sort.CutIn
import Derived.Deep.RegionHeld3
/- The iterator of the pictures of a field of two pixels that are 0 or 1. -/
namespace Go.Proofs.YthmfgbjimdondaaDoor.P
open Go.RowKit Go.Proofs.YthmfgbjimdondaaDoorW.PrintWords Go.Proofs.YthmfgbjimdondaaDoorW.PrintLast Go.Proofs.YthmfgbjimdondaaDoorW.PrintMore
set_option linter.unusedVariables false
set_option linter.unusedSimpArgs false

def RowAt (W : World) (r : Nat) (x : Int × Int) : Prop := W.heap[r]? = some (.cells #[.int .i64 x.1, .int .i64 x.2] 3 (0, 0))
theorem RowAt.c0 {W : World} {r : Nat} {x : Int × Int} (h : RowAt W r x) : W.cell? ⟨r, 0, none⟩ = some (.int .i64 x.1) := (blk_cell h 0).trans rfl
theorem RowAt.c1 {W : World} {r : Nat} {x : Int × Int} (h : RowAt W r x) : W.cell? ⟨r, 1, none⟩ = some (.int .i64 x.2) := (blk_cell h 1).trans rfl
theorem RowAt.lt {W : World} {r : Nat} {x : Int × Int} (h : RowAt W r x) : r < W.heap.size := (Array.getElem?_eq_some_iff.1 h).1
theorem RowAt.set0 {W : World} {r : Nat} {x : Int × Int} (h : RowAt W r x) (z : Int) : RowAt (W.setCell ⟨r, 0, none⟩ (.int .i64 z)) r (z, x.2) := blk_put h 0 _ rfl
theorem RowAt.set1 {W : World} {r : Nat} {x : Int × Int} (h : RowAt W r x) (z : Int) : RowAt (W.setCell ⟨r, 1, none⟩ (.int .i64 z)) r (x.1, z) := blk_put h 1 _ rfl
def pics : List (Int × Int) := [(0, 0), (0, 1), (1, 0), (1, 1)]
def EncRow (x : Int × Int) (vs : Array Value) (T : Nat → Prop) (W : World) : Prop := ∃ r, vs = #[.slice (some ⟨r, 0, none⟩) 2 2] ∧ RowAt W r x ∧ T r ∧ x ∈ pics
theorem EncRow.moves (x : Int × Int) (vs : Array Value) (T : Nat → Prop) (A B : World) (h : EncRow x vs T A) (hm : Moves T A B) : EncRow x vs T B := by
  obtain ⟨r, h1, h2, h3, h4⟩ := h
  exact ⟨r, h1, (hm.2 r h2.lt h3).trans h2, h3, h4⟩
structure PicSt (r : Nat) (J : List (Int × Int) → (Nat → Prop) → World → Prop) (G0 G : Nat → Prop) (W wr : World) (pre : List (Int × Int)) (x : Int × Int) : Prop where
  inv : J pre G wr
  kept : KeptO W wr (fun k => G0 k ∨ False)
  sub : ∀ k, G k → k < W.heap.size → G0 k
  nr : ¬ G r
  new : W.heap.size ≤ r
  row : RowAt wr r x
section
variable {r : Nat} {J : List (Int × Int) → (Nat → Prop) → World → Prop} {G0 G : Nat → Prop} {W wr : World} {pre : List (Int × Int)} {x : Int × Int}
theorem PicSt.drewN (h : PicSt r J G0 G W wr pre x) (hJ : ∀ s G A B, J s G A → Moves G A B → J s G B) (m : Nat) : PicSt r J G0 G W (wr.drewN m) pre x :=
  ⟨hJ _ _ _ _ h.inv ⟨Nat.le_refl _, fun _ _ _ => rfl⟩, h.kept.drewN m, h.sub, h.nr, h.new, h.row⟩
theorem PicSt.store (h : PicSt r J G0 G W wr pre x) (hJ : ∀ s G A B, J s G A → Moves G A B → J s G B) (i : Nat) (v : Value) {y : Int × Int} (hy : RowAt (wr.setCell ⟨r, i, none⟩ v) r y) : PicSt r J G0 G W (wr.setCell ⟨r, i, none⟩ v) pre y := by
  have hbl : ∀ k, k ≠ r → (wr.setCell ⟨r, i, none⟩ v).heap[k]? = wr.heap[k]? := fun k hk => Below.heap_setCell wr ⟨r, i, none⟩ _ k hk
  have hB := (Below.refl r wr).setCell (p := ⟨r, i, none⟩) (Nat.le_refl _) v
  refine ⟨hJ _ _ _ _ h.inv ⟨hB.size, fun k _ hG => hbl k (fun e => h.nr (e ▸ hG))⟩, ⟨hB.os.trans h.kept.os, hB.tape.trans h.kept.tape, hB.output.trans h.kept.output, Nat.le_trans h.kept.size hB.size, fun k hk hn => ?_⟩, h.sub, h.nr, h.new, hy⟩
  exact (hbl k (fun e => by have := h.new; omega)).trans (h.kept.blk k hk hn)
theorem PicSt.keptAfter {W' : World} (h : PicSt r J G0 G W wr pre x) (hk : KeptO wr W' G) : KeptO W W' (fun k => G0 k ∨ False) := by
  refine ⟨hk.os.trans h.kept.os, hk.tape.trans h.kept.tape, hk.output.trans h.kept.output, Nat.le_trans h.kept.size hk.size, fun k hl hn => ?_⟩
  exact (hk.blk k (Nat.lt_of_lt_of_le hl h.kept.size) (fun hG => hn (.inl (h.sub k hG hl)))).trans (h.kept.blk k hl hn)
theorem PicSt.after {W' : World} {G' T : Nat → Prop} {z : Int × Int} (h : PicSt r J G0 G W wr pre x) (hj : J (pre ++ [z]) G' W') (hk : KeptO wr W' G) (ha : Adds False T G G' wr) : PicSt r J G0 G' W W' (pre ++ [z]) x := by
  have hr := h.row.lt
  refine ⟨hj, h.keptAfter hk, fun k hG hl => ?_, fun hG => ?_, h.new, (hk.blk r hr h.nr).trans h.row⟩
  · rcases ha k hG with h' | h' | h'
    · exact h.sub k h' hl
    · have := h.kept.size; omega
    · exact h'.1.elim
  · rcases ha r hG with h' | h' | h'
    · exact h.nr h'
    · omega
    · exact h'.1.elim
end
theorem mk2 (W : World) : (Instr.makeSlice 34 (.int .i64 2) (.int .i64 2)).run Tryd.prog W = .ok (.slice (some ⟨W.heap.size, 0, none⟩) 2 2) (W.alloc (.cells #[.int .i64 0, .int .i64 0] 3)) := by kernel_rfl
theorem pics_cases {k : Nat} (h : k < 4) : k = 0 ∨ k = 1 ∨ k = 2 ∨ k = 3 := by omega
set_option maxHeartbeats 4000000 in
set_option maxRecDepth 100000 in
theorem pics_seq (b : Nat) (w : World) (hb : w.heap[b]? = some (.cells #[.int .i64 2, .int .i64 1] 23 (0, 0))) :
    SeqF Tryd.prog 66 #[.pointer (some ⟨b, 0, none⟩)] EncRow False (fun k => k = b) (fun _ => False) (fun s => s = pics) (fun s => s <+: pics) 4 w := by
  intro l J Jx G0 W hW hJ hJx hY hG0 h0
  refine (show Calls _ _ _ _ (SeqPost J Jx (fun s => s = pics) (fun s => s <+: pics) W (fun k => G0 k ∨ False)) from ?_)
  have hlb : b < w.heap.size := (Array.getElem?_eq_some_iff.1 hb).1
  have hbW : W.heap[b]? = some (.cells #[.int .i64 2, .int .i64 1] 23 (0, 0)) := (hW.block b hlb).trans hb
  have hlW : b < W.heap.size := Nat.lt_of_lt_of_le hlb hW.size
  have hst0 : PicSt W.heap.size J G0 G0 W (W.alloc (.cells #[.int .i64 0, .int .i64 0] 3)) [] (0, 0) := by
    have hbx := below_box W (.cells #[.int .i64 0, .int .i64 0] 3)
    exact ⟨hJ _ _ _ _ h0 ⟨hbx.size, fun k hk _ => hbx.block k hk⟩, KeptO.of_below hbx _, fun _ h _ => h, fun h => by have := (hG0 _ h).1; omega, Nat.le_refl _, heap_alloc_new W _⟩
  have HBX : Aside0 (∀ wr, KeptO W wr (fun k => G0 k ∨ False) → wr.heap[b]? = some (.cells #[.int .i64 2, .int .i64 1] 23 (0, 0))) := ⟨fun wr hk => (hk.blk b hlW (fun h => by rcases h with h | h; exact (hG0 b h).2 rfl; exact h)).trans hbW⟩
  have hc0 : W.cell? ⟨b, 0, none⟩ = some (.int .i64 2) := (blk_cell hbW 0).trans rfl
  have HST0 := Aside0.mk hst0
  have HY := Aside0.mk hY
  have HJ := Aside0.mk hJ
  clear hW hJ hJx hY hG0 h0 hb hst0 hlb hbW hlW
  simp only [List.append_toArray, List.cons_append, List.nil_append]
  go_enter Tryd.func66, Tryd.ntmps66
  have hmk := mk2
  go_wp2_with fail
  clear hmk hc0
  go_loopg [4] 4 (fun gg s4 wr => ∃ (k : Nat) (x : Int × Int) (G : Nat → Prop), k < 4 ∧ 4 - k ≤ gg ∧ Aside0 (pics.getD k (0, 0) = x) ∧ Aside0 (PicSt W.heap.size J G0 G W wr (pics.take k) x))
  case atStart => exact ⟨0, (0, 0), G0, by omega, by omega, ⟨rfl⟩, HST0⟩
  case round =>
    obtain ⟨k, x, G, hk, hg, HX, HST⟩ := hrel
    have hlenp : (pics.take k).length < 4 := by
      have : pics.length = 4 := rfl
      rw [List.length_take]; omega
    have hyy := HY.out (pics.take k) x #[.slice (some ⟨W.heap.size, 0, none⟩) 2 2] (fun i => i = W.heap.size) G wr HST.out.inv ⟨_, rfl, HST.out.row, rfl, by rw [← HX.out]; rcases pics_cases hk with rfl | rfl | rfl | rfl <;> simp [pics]⟩ (fun i h => ⟨fun hG => HST.out.nr (h ▸ hG), by have := HST.out.row.lt; omega⟩) hlenp
    obtain ⟨fn, tmps, asg, bd, hy, hR⟩ := hyy
    have HRO := Aside0.mk hR
    clear hR hlenp
    go_upto_region 1 with fail
    refine (wpIn_wide (n := 1)).1 ?_
    gi_wp2
    refine RoundIn.mono HRO.out ?_
    rintro e W' (⟨rfl, G', hj, hkp, had⟩ | ⟨rfl, G', hj, hkp, had⟩)
    · have HST2 := Aside0.mk (HST.out.after hj hkp had)
      clear hj hkp had HST HRO hy
      have hb' := HBX.out W' HST2.out.kept
      have hc0 : W'.cell? ⟨b, 0, none⟩ = some (.int .i64 2) := (blk_cell hb' 0).trans rfl
      have HX01 : Aside0 ((x.1 = 0 ∨ x.1 = 1) ∧ (x.2 = 0 ∨ x.2 = 1)) := ⟨by
        rw [← HX.out]
        rcases pics_cases hk with rfl | rfl | rfl | rfl <;> decide⟩
      clear hb'
      gi_wp2
      go_wp2
      clear hc0
      go_loopg [4] 3 (fun gg s4 wq => ∃ (i : Int) (y : Int × Int), s4 = .int .i64 i ∧ (i + 1).toNat ≤ gg ∧ Aside0 ((i = 1 ∧ y = x) ∨ (i = 0 ∧ x.2 = 1 ∧ y = (x.1, 0)) ∨ (i = -1 ∧ x.1 = 1 ∧ x.2 = 1 ∧ y = (0, 0))) ∧ Aside0 (PicSt W.heap.size J G0 G' W wq (pics.take k ++ [x]) y))
      case atStart => exact ⟨1, x, by go_num, by decide, ⟨.inl ⟨rfl, rfl⟩⟩, HST2⟩
      case round =>
        rename World => wq
        obtain ⟨i, y, rfl, hgi, HREL, HI⟩ := hrel
        have hb' := HBX.out _ HI.out.kept
        have hc1 : wq.cell? ⟨b, 1, none⟩ = some (.int .i64 1) := (blk_cell hb' 1).trans rfl
        have hy0 := HI.out.row.c0
        have hy1 := HI.out.row.c1
        have hf0 := blk_frozen HI.out.row 0
        have hf1 := blk_frozen HI.out.row 1
        have HJ1 := Aside0.mk (HI.out.drewN HJ.out 1)
        clear hb'
        rcases HREL.out with ⟨rfl, rfl⟩ | ⟨rfl, h2, rfl⟩ | ⟨rfl, h1, h2, rfl⟩
        · rcases HX01.out.2 with h2 | h2
          · rw [h2] at hy1
            have HNX : Aside0 (k + 1 < 4 ∧ pics.getD (k + 1) (0, 0) = (y.1, 1)) := ⟨by
              have := HX.out
              rcases pics_cases hk with rfl | rfl | rfl | rfl <;> (have e := this.symm; subst e; first | (exact absurd h2 (by decide)) | decide)⟩
            clear h2
            go_upto_region 3 with fail
            go_region
            go_wp2_with fail
            go_roundg (4 - (k + 1))
            case measure => omega
            case rel =>
              refine ⟨k + 1, (y.1, 1), G', HNX.out.1, by omega, ⟨HNX.out.2⟩, ⟨?_⟩⟩
              have e : pics.take k ++ [y] = pics.take (k + 1) := by
                rw [← HX.out]
                rcases pics_cases hk with rfl | rfl | rfl | rfl <;> rfl
              rw [e] at HJ1
              exact HJ1.out.store HJ.out 1 (.int .i64 1) (HJ1.out.row.set1 1)
          · rw [h2] at hy1
            have HH2 := Aside0.mk h2
            clear h2
            go_upto_region 3 with fail
            go_region
            go_wp2_with fail
            go_roundg 1
            case measure => simp at hgi; omega
            case rel => exact ⟨0, (y.1, 0), by go_num, by decide, ⟨.inr (.inl ⟨rfl, HH2.out, rfl⟩)⟩, ⟨HJ1.out.store HJ.out 1 (.int .i64 0) (HJ1.out.row.set1 0)⟩⟩
        · rcases HX01.out.1 with h1 | h1
          · dsimp only at hy0
            rw [h1] at hy0
            have HNX : Aside0 (k + 1 < 4 ∧ pics.getD (k + 1) (0, 0) = (1, 0)) := ⟨by
              have := HX.out
              rcases pics_cases hk with rfl | rfl | rfl | rfl <;> (have e := this.symm; subst e; first | (exact absurd h2 (by decide)) | (exact absurd h1 (by decide)) | decide)⟩
            clear h1 h2
            go_upto_region 3 with fail
            go_region
            go_wp2_with fail
            go_roundg (4 - (k + 1))
            case measure => omega
            case rel =>
              refine ⟨k + 1, (1, 0), G', HNX.out.1, by omega, ⟨HNX.out.2⟩, ⟨?_⟩⟩
              have e : pics.take k ++ [x] = pics.take (k + 1) := by
                rw [← HX.out]
                rcases pics_cases hk with rfl | rfl | rfl | rfl <;> rfl
              rw [e] at HJ1
              exact HJ1.out.store HJ.out 0 (.int .i64 1) (HJ1.out.row.set0 1)
          · dsimp only at hy0
            rw [h1] at hy0
            have HH1 := Aside0.mk h1
            have HH2 := Aside0.mk h2
            clear h1 h2
            go_upto_region 3 with fail
            go_region
            go_wp2_with fail
            go_roundg 0
            case measure => simp at hgi; omega
            case rel => exact ⟨-1, (0, 0), by go_num, by decide, ⟨.inr (.inr ⟨rfl, HH1.out, HH2.out, rfl⟩)⟩, ⟨HJ1.out.store HJ.out 0 (.int .i64 0) (HJ1.out.row.set0 0)⟩⟩
        · have HFIN : Aside0 (SeqPost J Jx (fun s => s = pics) (fun s => s <+: pics) W (fun k => G0 k ∨ False) (.returned (.tuple #[])) wq.drew) := ⟨⟨_, rfl⟩, HJ1.out.kept, _, _, .inl ⟨by
            have := HX.out
            rcases pics_cases hk with rfl | rfl | rfl | rfl <;> (have e := this.symm; subst e; first | (exact absurd h2 (by decide)) | (exact absurd h1 (by decide)) | rfl), HJ1.out.inv⟩⟩
          clear h1 h2
          go_upto_region 3 with fail
          go_region
          go_wp2_with fail
          refine bodyPost_ret (results_none rfl _ _ _) rfl ?_
          first | exact HFIN.out | (have hfin := HFIN.out; simp only [or_false] at hfin; exact hfin)
    · have hfin : SeqPost J Jx (fun s => s = pics) (fun s => s <+: pics) W (fun k => G0 k ∨ False) (.returned (.tuple #[])) W' :=
        ⟨⟨_, rfl⟩, HST.out.keptAfter hkp, _, _, .inr ⟨by
          have e : pics.take k ++ [x] = pics.take (k + 1) := by
            rw [← HX.out]
            rcases pics_cases hk with rfl | rfl | rfl | rfl <;> rfl
          rw [e]
          exact List.take_prefix _ _, hj⟩⟩
      have HFIN := Aside0.mk hfin
      clear hfin hj hkp had HRO hy
      gi_wp2
      go_wp2
      refine bodyPost_ret (results_none rfl _ _ _) rfl ?_
      exact HFIN.out
end Go.Proofs.YthmfgbjimdondaaDoor.P
/- bit.fits at one cell and a picture of two pixels. -/
namespace Go.Proofs.YthmfgbjimdondaaDoor.P
open Go.RowKit Go.Proofs.YthmfgbjimdondaaDoorW.PrintWords Go.Proofs.YthmfgbjimdondaaDoorW.PrintLast Go.Proofs.YthmfgbjimdondaaDoorW.PrintMore
set_option linter.unusedVariables false
set_option linter.unusedSimpArgs false

theorem RowAt.C {W : World} {r : Nat} {x : Int × Int} (h : RowAt W r x) : Kd.C (Kd.int .i64) W (some ⟨r, 0, none⟩) 2 [x.1, x.2] := by
  refine ⟨rfl, by decide, fun _ => ⟨_, rfl, fun j p hj => ?_⟩⟩
  match j, hj with
  | 0, hj =>
    obtain rfl := Option.some.inj hj
    refine ⟨[.int .i64 x.1], rfl, rfl, fun i u hi => ?_⟩
    match i, hi with
    | 0, hi => obtain rfl := Option.some.inj hi; exact h.c0
  | 1, hj =>
    obtain rfl := Option.some.inj hj
    refine ⟨[.int .i64 x.2], rfl, rfl, fun i u hi => ?_⟩
    match i, hi with
    | 0, hi => obtain rfl := Option.some.inj hi; exact h.c1
def oneCell : S36 := ⟨[1, 1], 1, 1⟩
def oneB (x : Int × Int) : Bool := decide (x.1 + x.2 = 1)
theorem in_pic {x : Int × Int} (hx : x ∈ pics) : bit_in.f 10 [1, 1] 1 1 [x.1, x.2] = some (oneB x) := by
  simp only [pics, List.mem_cons, List.not_mem_nil, or_false] at hx
  rcases hx with rfl | rfl | rfl | rfl <;> kernel_rfl
theorem entersFits1 : ∀ args w, (callFunc 67 args).run Tryd.prog w = .ok (.enter 67 args) w := enters_of Tryd.func67 (by kernel_rfl) rfl
set_option maxHeartbeats 1000000 in
theorem fits1_pred (x : Int × Int) (hx : x ∈ pics) (A : Option Addr) (cap : Nat) (hcap : 2 ≤ cap) (b : Nat) (w : World) (hb : b < w.heap.size) (hbc : w.cell? ⟨b, 0, none⟩ = some (.slice A 2 cap)) (hr : Kd.C (Kd.int .i64) w A 2 [x.1, x.2]) :
    PredC 67 #[.pointer (some ⟨b, 0, none⟩)] k36 (fun cs => .agg cs.toArray) (fun _ => !oneB x) (fun y => y = oneCell) w := by
  intro y cs W hy hW hK
  subst hy
  obtain ⟨A0, c0, rfl, hc0, hrx⟩ := k36_open hK
  have hn := box_later hb hbc hW
  have hbW : b < W.heap.size := Nat.lt_of_lt_of_le hb hW.size
  have hu := Tryd.underlying36
  have h := fun W' (hW' : Below W.heap.size W W') => bit_in.calls 10 A0 c0 [1, 1] 1 1 A cap [x.1, x.2] (oneB x) W' (Kd.C_below hrx hW') hc0 (Kd.C_below (Kd.C_below hr hW) hW') hcap (in_pic hx)
  have H := Aside0.mk h
  clear hbc hr hK h hrx hb hW hc0 hcap hx
  dsimp only [oneCell]
  generalize oneB x = y at *
  simp only [List.append_toArray, List.cons_append, List.nil_append, List.length_cons, List.length_nil, Nat.reduceAdd, Nat.zero_add] at H ⊢
  have hq0 : (W.alloc (.cells #[.slice A0 2 c0, .int .i64 1, .int .i64 1] 36)).cell? ⟨W.heap.size, 0, none⟩ = some (.slice A0 2 c0) := by rw [World.cell?_alloc_at _ _ _ _ rfl]; rfl
  have hq1 : (W.alloc (.cells #[.slice A0 2 c0, .int .i64 1, .int .i64 1] 36)).cell? ⟨W.heap.size, 1, none⟩ = some (.int .i64 1) := by rw [World.cell?_alloc_at _ _ _ _ rfl]; rfl
  have hq2 : (W.alloc (.cells #[.slice A0 2 c0, .int .i64 1, .int .i64 1] 36)).cell? ⟨W.heap.size, 2, none⟩ = some (.int .i64 1) := by rw [World.cell?_alloc_at _ _ _ _ rfl]; rfl
  have hbx := below_box W (.cells #[.slice A0 2 c0, .int .i64 1, .int .i64 1] 36)
  have hn0 := (hbx.cell (p := ⟨b, 0, none⟩) hbW).trans hn
  have HBX := Aside0.mk hbx
  clear hn hbx hbW
  go_enter Tryd.func67, Tryd.ntmps67
  go_wp2_with (go_at_call 68; refine (H.out _ HBX.out).mono ?_; rintro e w' ⟨rfl, hb2⟩)
  go_ret
  exact ⟨rfl, below_step HBX.out hb2⟩
set_option maxHeartbeats 1000000 in
theorem fits_any (x : Int × Int) (hx : x ∈ pics) (A : Option Addr) (cap : Nat) (hcap : 2 ≤ cap) (A0 : Option Addr) (c0 : Nat) (hc0 : 1 ≤ c0) (w : World) (hr : Kd.C (Kd.int .i64) w A 2 [x.1, x.2]) (hc : Kd.C k36 w A0 1 [oneCell]) :
    Calls Tryd.prog 48 #[.slice A0 1 c0, .slice A 2 cap] w fun e w' => e = .returned (.bool (oneB x)) ∧ Below w.heap.size w w' := by
  have hb := below_box w (.cells #[.slice A 2 cap] 34)
  have hbx := box_new w (.slice A 2 cap) 34
  have hsz : w.heap.size < (w.alloc (.cells #[.slice A 2 cap] 34)).heap.size := by simp
  have hcf := containsFunc_cell 67 #[.pointer (some ⟨w.heap.size, 0, none⟩)] _ _ A0 c0 [oneCell] _ (Kd.C_below hc hb) hc0 entersFits1 (fits1_pred x hx A cap hcap w.heap.size _ hsz hbx (Kd.C_below hr hb)) (fun y hy => by simpa using hy)
  have HB := Aside0.mk hb
  simp only [List.any_cons, List.any_nil, Bool.or_false, List.length_cons, List.length_nil, Nat.zero_add] at hcf
  clear hr hb hsz hc hx hcap hc0
  have HN : Aside0 ((!(!oneB x)) = oneB x) := ⟨Bool.not_not _⟩
  generalize (!oneB x) = z at *
  generalize oneB x = y at *
  go_enter Tryd.func48, Tryd.ntmps48
  go_wp2_with (go_at_call 28; refine hcf.mono ?_; rintro e w' ⟨rfl, hb⟩)
  go_ret
  exact ⟨by rw [← HN.out]; rfl, below_step HB.out hb⟩
end Go.Proofs.YthmfgbjimdondaaDoor.P
/- bit.left at a field of two pixels that are 0 or 1, and one cell that sees them both. -/
namespace Go.Proofs.YthmfgbjimdondaaDoor.P
open Go.RowKit Go.Proofs.YthmfgbjimdondaaDoorW.PrintWords Go.Proofs.YthmfgbjimdondaaDoorW.PrintLast Go.Proofs.YthmfgbjimdondaaDoorW.PrintMore
set_option linter.unusedVariables false
set_option linter.unusedSimpArgs false
attribute [local go_sem] Oper.semAt_some

/-- A slice's header: what it points at is not spoken of. -/
def kH : Kd (Option Addr × Nat × Nat) := Kd.scalar (fun p : Option Addr × Nat × Nat => .slice p.1 p.2.1 p.2.2) (fun _ => rfl)
theorem entersPics1 : ∀ args w, (callFunc 66 args).run Tryd.prog w = .ok (.enter 66 args) w := enters_of Tryd.func66 (by kernel_rfl) rfl
theorem pictures_make (w : World) : Calls Tryd.prog 47 #[.agg #[.int .i64 2, .int .i64 1]] w fun e w' => e = .returned (.func (.func 66) #[] #[.pointer (some ⟨w.heap.size, 0, none⟩)]) ∧ w' = w.alloc (.cells #[.int .i64 2, .int .i64 1] 23) := by
  have hu := Tryd.underlying23
  go_enter Tryd.func47, Tryd.ntmps47
  go_wp2
  go_ret
  exact ⟨rfl, rfl⟩
theorem row_cells {W : World} {r : Nat} {x : Int × Int} (h0 : W.cell? ⟨r, 0, none⟩ = some (.int .i64 x.1)) (h1 : W.cell? ⟨r, 1, none⟩ = some (.int .i64 x.2)) : ∀ j, j < [x.1, x.2].length → W.cell? ⟨r, 0 + j, none⟩ = some (.int .i64 ([x.1, x.2].getD j 0)) := by
  intro j hj
  have hj2 : j = 0 ∨ j = 1 := by simp at hj; omega
  rcases hj2 with rfl | rfl
  · exact h0
  · exact h1
def LeftI (w : World) (A0 : Option Addr) (c0 : Nat) (pre : List (Int × Int)) (G : Nat → Prop) (W : World) : Prop :=
  (∀ k, k < w.heap.size + 3 → G k) ∧ Old w W ∧ Boxed W (w.heap.size + 1) 24 (.slice A0 1 c0) ∧ ∃ v hs, Boxed W (w.heap.size + 2) 67 v ∧ Kd.R kH 34 W 0 (fun k => G k ∧ w.heap.size + 3 ≤ k) v hs ∧ hs.length = (pre.filter oneB).length
theorem LeftI.moves (w : World) (A0 : Option Addr) (c0 : Nat) (s : List (Int × Int)) (G : Nat → Prop) (A B : World) (h : LeftI w A0 c0 s G A) (hm : Moves G A B) : LeftI w A0 c0 s G B := by
  obtain ⟨hG, ho, h1, v, hs, h2, h3, h4⟩ := h
  have hA := ho.1
  exact ⟨hG, ⟨Nat.le_trans ho.1 hm.1, fun k hk => (hm.2 k (by omega) (hG k (by omega))).trans (ho.2 k hk)⟩, (hm.2 _ h1.lt (hG _ (by omega))).trans h1, v, hs, (hm.2 _ h2.lt (hG _ (by omega))).trans h2, Kd.R_step h3 (fun k hk hlt => hm.2 k hlt hk.1), h4⟩
def leftTmps (A0 : Option Addr) (c0 : Nat) (B : Nat) (x : Value) : Array Value := #[.agg #[.int .i64 2, .int .i64 1], .slice A0 1 c0, .pointer (some ⟨B, 0, none⟩), .pointer (some ⟨B + 1, 0, none⟩), .slice none 0 0, .pointer (some ⟨B + 1 + 1, 0, none⟩), x, .agg #[.int .i64 2, .int .i64 1], .func (.func 66) #[] #[.pointer (some ⟨B + 1 + 1 + 1, 0, none⟩)], x, undef, undef, undef, undef, undef, undef, undef, undef, undef]
theorem C_old {w W : World} {A : Option Addr} {n : Nat} {xs : List S36} (h : Kd.C k36 w A n xs) (ho : Old w W) : Kd.C k36 W A n xs := by
  have := Kd.C_below (w1 := { W with os := w.os, tape := w.tape, output := w.output }) h ⟨rfl, rfl, rfl, ho.1, ho.2⟩
  exact this
set_option maxHeartbeats 8000000 in
set_option maxRecDepth 100000 in
theorem left_any (A0 : Option Addr) (c0 : Nat) (hc0 : 1 ≤ c0) (w : World) (hc : Kd.C k36 w A0 1 [oneCell]) :
    Calls Tryd.prog 31 #[.agg #[.int .i64 2, .int .i64 1], .slice A0 1 c0] w fun e w' => ∃ A c, e = .returned (.slice A 2 c) ∧ Below w.heap.size w w' := by
  refine (callsIn_wide (n := 3)).1 ?_
  refine callsIn_of_wp_marks Tryd.func31 rfl trivial ?_ rfl
  simp only [Tryd.ntmps31, List.size_toArray, List.length_cons, List.length_nil, Nat.reduceAdd, Nat.reduceSub, Array.replicate_succ, Array.replicate_zero, List.push_toArray, List.append_toArray, List.nil_append, List.cons_append]
  have hu := Tryd.underlying23
  have HC := Aside0.mk hc
  clear hc
  have hlm := fun W => pictures_make W
  gi_wp2_with (first | (refine ⟨trivial, ?_⟩; gi_at_call 47; refine (callsIn_wide.2 (hlm _)).mono ?_; rintro e w1 ⟨rfl, rfl⟩))
  have hb0 : Below w.heap.size w ((((w.alloc (.cells #[.int .i64 2, .int .i64 1] 23)).alloc (.cells #[.slice A0 1 c0] 24)).alloc (.cells #[.slice none 0 0] 67)).alloc (.cells #[.int .i64 2, .int .i64 1] 23)) := ((((Below.refl _ w).alloc (Nat.le_refl _) _).alloc (by simp) _).alloc (by simp; omega) _).alloc (by simp; omega) _
  have hx1 : Boxed ((((w.alloc (.cells #[.int .i64 2, .int .i64 1] 23)).alloc (.cells #[.slice A0 1 c0] 24)).alloc (.cells #[.slice none 0 0] 67)).alloc (.cells #[.int .i64 2, .int .i64 1] 23)) (w.heap.size + 1) 24 (.slice A0 1 c0) := by
    have := ((Boxed.new (w.alloc (.cells #[.int .i64 2, .int .i64 1] 23)) 24 (.slice A0 1 c0)).alloc (.cells #[.slice none 0 0] 67)).alloc (.cells #[.int .i64 2, .int .i64 1] 23)
    rwa [World.size_alloc] at this
  have hx2 : Boxed ((((w.alloc (.cells #[.int .i64 2, .int .i64 1] 23)).alloc (.cells #[.slice A0 1 c0] 24)).alloc (.cells #[.slice none 0 0] 67)).alloc (.cells #[.int .i64 2, .int .i64 1] 23)) (w.heap.size + 2) 67 (.slice none 0 0) := by
    have := (Boxed.new ((w.alloc (.cells #[.int .i64 2, .int .i64 1] 23)).alloc (.cells #[.slice A0 1 c0] 24)) 67 (.slice none 0 0)).alloc (.cells #[.int .i64 2, .int .i64 1] 23)
    rwa [World.size_alloc, World.size_alloc] at this
  have hx3 : ((((w.alloc (.cells #[.int .i64 2, .int .i64 1] 23)).alloc (.cells #[.slice A0 1 c0] 24)).alloc (.cells #[.slice none 0 0] 67)).alloc (.cells #[.int .i64 2, .int .i64 1] 23)).heap[w.heap.size + 1 + 1 + 1]? = some (.cells #[.int .i64 2, .int .i64 1] 23 (0, 0)) := by
    have := heap_alloc_new (((w.alloc (.cells #[.int .i64 2, .int .i64 1] 23)).alloc (.cells #[.slice A0 1 c0] 24)).alloc (.cells #[.slice none 0 0] 67)) (.cells #[.int .i64 2, .int .i64 1] 23)
    rwa [World.size_alloc, World.size_alloc, World.size_alloc] at this
  have hsz0 : ((((w.alloc (.cells #[.int .i64 2, .int .i64 1] 23)).alloc (.cells #[.slice A0 1 c0] 24)).alloc (.cells #[.slice none 0 0] 67)).alloc (.cells #[.int .i64 2, .int .i64 1] 23)).heap.size = w.heap.size + 4 := by simp
  generalize ((((w.alloc (.cells #[.int .i64 2, .int .i64 1] 23)).alloc (.cells #[.slice A0 1 c0] 24)).alloc (.cells #[.slice none 0 0] 67)).alloc (.cells #[.int .i64 2, .int .i64 1] 23)) = W0 at *
  have HX3 := Aside0.mk hx3
  have HSZ := Aside0.mk hsz0
  have HB0 := Aside0.mk hb0
  have HI0 : Aside0 (LeftI w A0 c0 [] (fun k => k < w.heap.size + 3) W0) := ⟨fun k h => h, Old.of_below hb0, hx1, .slice none 0 0, [], hx2, Kd.R_nil _ _ _ _ _, rfl⟩
  clear hx1 hx2 hx3 hsz0 hb0 hlm
  refine wpIn_range_outer (P := Tryd.prog) (gf := 66) (lb := #[.pointer (some ⟨w.heap.size + 1 + 1 + 1, 0, none⟩)]) rfl entersPics1 (pics_seq _ W0 HX3.out) (fun k h => by have := HSZ.out; omega) (Below.refl _ _) EncRow.moves (fun x vs T W h => by obtain ⟨r, rfl, _⟩ := h; rfl)
    (LeftI w A0 c0) (fun _ _ _ _ => False) (LeftI.moves w A0 c0) (fun _ _ _ _ _ h _ => h) (fun k => k < w.heap.size + 3) (fun k h => by have := HSZ.out; omega) (fun k h e => by omega) HI0.out
    (fun vs W a' Wa => ∃ v, vs = #[v] ∧ Wa = W ∧ a' = { tmps := leftTmps A0 c0 w.heap.size v, defers := [] })
    ?assign ?body ?done ?stop
  case assign =>
    intro l x vs T W K he hK
    obtain ⟨r, rfl, _⟩ := he
    gi_wp2
    exact hK _ _ (Below.refl _ _) ⟨_, rfl, rfl, rfl⟩
  case stop =>
    intro D c pre G W hD hK hGD hSp hx hk
    exact hx.elim
  case done =>
    intro D xs G W1 hD hK hGD hS hI hkpt
    obtain ⟨hG, hold, hx1, vo, hs, hx2, hR, hlen2⟩ := hI
    have hl2 : hs.length = 2 := by rw [hlen2, hS]; rfl
    obtain ⟨A, c, evv⟩ := Kd.R_slice hR
    rw [hl2] at evv
    subst evv
    have hcb := hx2.cell
    have HX2 := Aside0.mk hx2
    have HK := Aside0.mk hK
    have HB1 : Aside0 (Below w.heap.size w W1) := ⟨⟨hkpt.os.trans HB0.out.os, hkpt.tape.trans HB0.out.tape, hkpt.output.trans HB0.out.output, hold.1, hold.2⟩⟩
    have HD : Aside0 (w.heap.size + 4 ≤ D) := ⟨by have := HSZ.out; omega⟩
    clear hG hold hx1 hR hlen2 hl2 hx2 hK hkpt hGD hD
    simp only []
    gi_wp2
    refine ⟨by simp, .inl ⟨_, _, rfl, run_takeDeferred HK.out, ?_⟩⟩
    refine ⟨.slice A 2 c, ?_, A, c, rfl, ?_⟩
    · rw [results_tmp rfl]
      rfl
    · exact ⟨HB1.out.os, HB1.out.tape, HB1.out.output, by simp; exact HB1.out.size, fun k hk => (World.putObj_heap_other (by have := HD.out; omega)).trans (HB1.out.block k hk)⟩
  case body =>
    intro l pre x vs T G W Wa Wb a' hl hlW hba hax hmv hsz1 hrr hI he hT hGl hlen
    obtain ⟨v, hvs, rfl, rfl⟩ := hax
    obtain ⟨r, hev, hrow, hTr, hxp⟩ := he
    obtain rfl : v = .slice (some ⟨r, 0, none⟩) 2 2 := by
      have := hvs.symm.trans hev
      simpa using this
    obtain ⟨hG, hold, hx1, vo, hs, hx2, hR, hlen2⟩ := hI
    have hfit := fits_any x hxp (some ⟨r, 0, none⟩) 2 (Nat.le_refl _) A0 c0 hc0 Wb hrow.C (C_old HC.out hold)
    have HR := Aside0.mk hR
    have HX1 := Aside0.mk hx1
    have HX2 := Aside0.mk hx2
    have HOLD := Aside0.mk hold
    have HG := Aside0.mk hG
    have HL2 := Aside0.mk hlen2
    have HROW := Aside0.mk hrow
    have hcb := hx1.cell
    have hrw0 := hrow.c0
    have hrw1 := hrow.c1
    have hk3 : w.heap.size + 3 ≤ Wb.heap.size := by have := hx2.lt; omega
    clear hR hx1 hx2 hold hG hlen2 hrow hvs hev hba hmv hsz1 hrr hT hxp hTr
    dsimp only [leftTmps]
    cases hone : oneB x with
    | false =>
      rw [hone] at hfit
      have HONE := Aside0.mk hone
      clear hone
      gi_wp2_with (first | (refine ⟨trivial, rfl, ?_⟩; gi_at_call 48; refine (CallsIn.inRound l (callsIn_wide.2 hfit)).mono ?_; rintro e w3 ⟨rfl, hb3⟩))
      refine ⟨G, ⟨HG.out, HOLD.out.below hb3 HOLD.out.1, (hb3.block _ HX1.out.lt).trans HX1.out, vo, hs, (hb3.block _ HX2.out.lt).trans HX2.out, Kd.R_below HR.out hb3, ?_⟩, KeptO.of_below hb3 G, fun k h => .inl h⟩
      rw [List.filter_append, List.length_append, ← HL2.out]
      simp [HONE.out]
    | true =>
      rw [hone] at hfit
      have HONE := Aside0.mk hone
      clear hone
      gi_upto_region 5 with (first | (refine ⟨trivial, rfl, ?_⟩; gi_at_call 48; refine (CallsIn.inRound l (callsIn_wide.2 hfit)).mono ?_; rintro e w3 ⟨rfl, hb3⟩))
      have HL4 : Aside0 (hs.length ≤ 4) := ⟨by
        have := List.length_filter_le oneB pre
        rw [HL2.out]; omega⟩
      clear hlen
      obtain ⟨A, c, evv⟩ := Kd.R_slice HR.out
      subst evv
      have cB : w3.cell? ⟨w.heap.size + 1 + 1, 0, none⟩ = some (.slice A hs.length c) := (hb3.cell (p := ⟨w.heap.size + 1 + 1, 0, none⟩) HX2.out.lt).trans HX2.out.cell
      have cr0 : w3.cell? ⟨r, 0, none⟩ = some (.int .i64 x.1) := (hb3.cell (p := ⟨r, 0, none⟩) HROW.out.lt).trans hrw0
      have cr1 : w3.cell? ⟨r, 1, none⟩ = some (.int .i64 x.2) := (hb3.cell (p := ⟨r, 1, none⟩) HROW.out.lt).trans hrw1
      have HB4 : Aside0 (Below Wb.heap.size Wb w3.drew) := ⟨below_drew1 hb3⟩
      have hsz3 : Wb.heap.size ≤ w3.drew.heap.size := hb3.size
      refine startR_ (n := 6) (S := fun w' => w'.cell? ⟨w.heap.size + 1 + 1, 0, none⟩ = some (.slice A hs.length c) ∧ w'.cell? ⟨r, 0, none⟩ = some (.int .i64 x.1) ∧ w'.cell? ⟨r, 1, none⟩ = some (.int .i64 x.2)) (ds := [4, 5]) #[false, false, false, false, false, false] (by kernel_rfl) (by rintro ⟨_, _, h⟩; exact h) (by kernel_rfl) rfl rfl ⟨cB, cr0, cr1⟩ (fun hHeld => ?_)
      clear cB cr0 cr1 hb3 hrw0 hrw1 hcb hfit
      generalize w3.drew = w4 at *
      refine take_ (i := 0) (N := some 13) (v := ?_) (a' := ?_) #[true, false, false, false, false, false] rfl rfl (by kernel_rfl) (fun _ _ _ h => h) (Or.inl ⟨by rfl, ?_⟩) hHeld ?_ ?_
      rotate_left
      · rintro w' ⟨s0, s1, s2⟩
        go_simp
        with_reducible rfl
      rotate_left
      · simp only [Act.put, List.setIfInBounds_toArray, List.set_cons_zero, List.set_cons_succ]
        rfl
      refine pure_ (i := 1) (N := some 14) (v := ?_) (a' := ?_) #[true, true, false, false, false, false] rfl rfl (by kernel_rfl) (fun _ _ _ h => h) (Or.inl ⟨by rfl, ?_⟩) ?_ ?_
      rotate_left
      · intro w'
        go_simp
        with_reducible rfl
      rotate_left
      · simp only [Act.put, List.setIfInBounds_toArray, List.set_cons_zero, List.set_cons_succ]
        rfl
      refine one_ (i := 2) (N := some 15) #[true, true, true, false, false, false] rfl rfl (by kernel_rfl) (by decide) (fun K hK => ?_)
      refine goes_ Tryd.func49 (by kernel_rfl) rfl #[.slice (some ⟨r, 0, none⟩) 2 2] (by rfl) rfl rfl (by (try simp only [List.map_toArray, List.map_cons, List.map_nil]); first | done | rfl) ?_
      with_reducible refine (Tryd.slices_Clone_int r 0 2 2 [x.1, x.2] w4 (by simp) (by decide) (row_cells hHeld.2.1 hHeld.2.2)).mono ?_
      rintro e w5 ⟨v5, rfl, hown5, hne5, hb5⟩
      refine ⟨_, rfl, ?_⟩
      obtain ⟨A5, c5, ev5⟩ : ∃ A5 c5, v5 = .slice A5 2 c5 := by
        rcases hown5.2 with ⟨_, h0⟩ | ⟨g, cap, cur, hv, _⟩
        · exact absurd h0 (by decide)
        · exact ⟨_, _, hv⟩
      subst ev5
      have hl0 := World.block_lt_of_cell? _ _ hHeld.1
      have hl1 := World.block_lt_of_cell? _ _ hHeld.2.1
      refine hK.out _ _ ⟨(hb5.cell (p := ⟨w.heap.size + 1 + 1, 0, none⟩) hl0).trans hHeld.1, (hb5.cell (p := ⟨r, 0, none⟩) hl1).trans hHeld.2.1, (hb5.cell (p := ⟨r, 1, none⟩) hl1).trans hHeld.2.2⟩ (fun hHeld2 => ?_)
      clear hK K hHeld hown5 hne5 hl0 hl1
      have hHeld := hHeld2
      clear hHeld2
      refine norm_ (a' := ?_) ?_ ?_
      rotate_left
      · show Act.put _ (some 15) _ = _
        simp only [Act.put, List.setIfInBounds_toArray, List.set_cons_zero, List.set_cons_succ]
        rfl
      have HB5 : Aside0 (Below Wb.heap.size Wb w5) := ⟨HB4.out.trans (hb5.mono hsz3)⟩
      refine one_ (i := 3) (N := some 16) #[true, true, true, true, false, false] rfl rfl (by kernel_rfl) (by decide) (fun K hK => ?_)
      go_simp
      have hvb : ∀ k, (Value.slice A hs.length c).ownBlock = some k → (G k ∧ w.heap.size + 3 ≤ k) ∧ k < Wb.heap.size := fun k hk => ⟨HR.out.1 k hk, Kd.R_lt HR.out k hk⟩
      have HVB := Aside0.mk hvb
      have HO5 : Aside0 (Kd.R kH 34 w5 0 (fun k => (G k ∨ Wb.heap.size ≤ k) ∧ w.heap.size + 3 ≤ k) (.slice A hs.length c) hs) := ⟨Kd.R_mono (Kd.R_step HR.out (fun k hk hlt => HB5.out.block k hlt)) (fun k hk => ⟨.inl hk.1, hk.2⟩)⟩
      have hb6 := below_box w5 (.cells #[.slice A5 2 c5] 34)
      have hl0 := World.block_lt_of_cell? _ _ hHeld.1
      have hl1 := World.block_lt_of_cell? _ _ hHeld.2.1
      refine hK.out _ _ ⟨(hb6.cell (p := ⟨w.heap.size + 1 + 1, 0, none⟩) hl0).trans hHeld.1, (hb6.cell (p := ⟨r, 0, none⟩) hl1).trans hHeld.2.1, (hb6.cell (p := ⟨r, 1, none⟩) hl1).trans hHeld.2.2⟩ (fun hHeld2 => ?_)
      clear hK K hvb hb5 hl0 hl1
      have HL5 := Aside0.mk HB5.out.size
      refine last_ (i := 4) (N := some 17) #[true, true, true, true, true, false] rfl rfl (by kernel_rfl) (by decide) (fun K hK => ?_)
      refine Kd.R_append_step kH (w0 := w5) 0 (by rfl) (.tmp 13) (.tmp 16) 67 34 (.slice none 0 0) 24 rfl Tryd.underlying67 info34 rfl (by decide) (by omega) (.slice A hs.length c) hs (A5, 2, c5) [.slice A5 2 c5] (fun k => (G k ∨ Wb.heap.size ≤ k) ∧ w.heap.size + 3 ≤ k) (fun _ => False) (by rfl) (by rfl) rfl
        (fun k hk => hk.elim) (fun k hk => ⟨.inr (by have := HL5.out; omega), by have := HL5.out; omega⟩) HO5.out (Below.refl 0 w5) (Nat.zero_le _) (by have := HL4.out; omega) ?_
      intro v6 w6 ho6 _ hg6 hat6
      refine hK.out _ _ ?_
      clear hK K hHeld hHeld2
      obtain ⟨A6, c6, ev6⟩ := Kd.R_slice ho6
      subst ev6
      have hkeep : ∀ k, k < w.heap.size + 3 → w6.heap[k]? = Wb.heap[k]? := fun k hk => (hg6.block k (by have := HB5.out.size; omega) (fun e => by have := (HVB.out k e.symm).1.2; omega)).trans (HB5.out.block k (by omega))
      have X1 : Boxed w6 (w.heap.size + 1) 24 (.slice A0 1 c0) := (hkeep _ (by omega)).trans HX1.out
      have X2 : Boxed w6 (w.heap.size + 1 + 1) 67 (.slice A hs.length c) := (hkeep _ (by omega)).trans HX2.out
      have hc60 := X2.cell
      have hf60 := X2.frozen
      have XX1 := Aside0.mk X1
      have XX2 := Aside0.mk X2
      have HO6 := Aside0.mk ho6
      have HG6 := Aside0.mk hg6
      have HKEEP := Aside0.mk hkeep
      clear X1 X2 ho6 hg6 hat6 hkeep
      refine norm_ (a' := ?_) ?_ ?_
      rotate_left
      · show Act.put _ (some 17) _ = _
        simp only [Act.put, List.setIfInBounds_toArray, List.set_cons_zero, List.set_cons_succ]
        rfl
      refine last_ (i := 5) (N := none) #[true, true, true, true, true, true] rfl rfl (by kernel_rfl) (by decide) (fun K hK => ?_)
      go_simp
      refine hK.out _ _ ?_
      clear hK K
      refine done_ (by kernel_rfl) ?_
      have hfar : ∀ k, k ≠ w.heap.size + 1 + 1 → (w6.setCell ⟨w.heap.size + 1 + 1, 0, none⟩ (.slice A6 (hs.length + 1) c6)).heap[k]? = w6.heap[k]? := fun k hk => Below.heap_setCell _ _ _ _ hk
      have hb7 := (Below.refl (w.heap.size + 1 + 1) w6).setCell (p := ⟨w.heap.size + 1 + 1, 0, none⟩) (Nat.le_refl _) (.slice A6 (hs.length + 1) c6)
      have K7 : KeptO Wb (w6.setCell ⟨w.heap.size + 1 + 1, 0, none⟩ (.slice A6 (hs.length + 1) c6)) G := by
        refine ⟨hb7.os.trans (HG6.out.os.trans HB5.out.os), hb7.tape.trans (HG6.out.tape.trans HB5.out.tape), hb7.output.trans (HG6.out.output.trans HB5.out.output), ?_, fun k hk hn => ?_⟩
        · exact Nat.le_trans HB5.out.size (Nat.le_trans HG6.out.size hb7.size)
        · exact (hfar k (fun e => hn (HG.out k (by omega)))).trans ((HG6.out.block k (Nat.lt_of_lt_of_le hk HB5.out.size) (fun e => hn (HVB.out k e.symm).1.1)).trans (HB5.out.block k hk))
      have O7 : Old w (w6.setCell ⟨w.heap.size + 1 + 1, 0, none⟩ (.slice A6 (hs.length + 1) c6)) := ⟨Nat.le_trans HOLD.out.1 K7.size, fun k hk => (hfar k (by omega)).trans ((HKEEP.out k (by omega)).trans (HOLD.out.2 k hk))⟩
      have R7 : Kd.R kH 34 (w6.setCell ⟨w.heap.size + 1 + 1, 0, none⟩ (.slice A6 (hs.length + 1) c6)) 0 (fun k => (G k ∨ Wb.heap.size ≤ k) ∧ w.heap.size + 3 ≤ k) (.slice A6 (hs.length + 1) c6) (hs ++ [(A5, 2, c5)]) := by
        have := HO6.out
        rw [List.length_append, List.length_singleton] at this
        exact Kd.R_step this (fun k hk _ => hfar k (by omega))
      refine ⟨fun k => G k ∨ Wb.heap.size ≤ k, ⟨fun k hk => .inl (HG.out k hk), O7, (hfar _ (by omega)).trans XX1.out, _, _, Boxed.set _ XX2.out, R7, ?_⟩, K7, fun k hk => ?_⟩
      · rw [List.filter_append, List.length_append, List.length_append, ← HL2.out]
        simp [HONE.out]
      · rcases hk with hk | hk
        · exact .inl hk
        · exact .inr (.inl hk)
end Go.Proofs.YthmfgbjimdondaaDoor.P
/- The law's awake: a count and a sight that are known. -/
namespace Go.Proofs.YthmfgbjimdondaaDoor.P
open Go.RowKit Go.Proofs.YthmfgbjimdondaaDoorW.PrintWords Go.Proofs.YthmfgbjimdondaaDoorW.PrintLast Go.Proofs.YthmfgbjimdondaaDoorW.PrintMore
set_option linter.unusedVariables false
set_option linter.unusedSimpArgs false
attribute [local go_sem] max2_int min2_int max_two min_two

theorem wr0 : IntKind.i64.wrap 0 = 0 := rfl
theorem wr1 : IntKind.i64.wrap 1 = 1 := rfl
theorem wr2 : IntKind.i64.wrap 2 = 2 := rfl
set_option maxHeartbeats 1000000 in
theorem count_any (A0 : Option Addr) (c0 : Nat) (hc0 : 1 ≤ c0) (w : World) (hc : Kd.C k36 w A0 1 [oneCell]) :
    Calls Tryd.prog 12 #[.agg #[.int .i64 2, .int .i64 1], .slice A0 1 c0] w fun e w' => e = .returned (.tuple #[.int .i64 2, .int .i64 0]) ∧ Below w.heap.size w w' := by
  have hu := Tryd.underlying23
  have hbx := below_box w (.cells #[.int .i64 2, .int .i64 1] 23)
  have hbc : (w.alloc (.cells #[.int .i64 2, .int .i64 1] 23)).cell? ⟨w.heap.size, 0, none⟩ = some (.int .i64 2) := by rw [World.cell?_alloc_at _ _ _ _ rfl]; rfl
  have hbc2 : (w.alloc (.cells #[.int .i64 2, .int .i64 1] 23)).cell? ⟨w.heap.size, 1, none⟩ = some (.int .i64 1) := by rw [World.cell?_alloc_at _ _ _ _ rfl]; rfl
  have hlt : w.heap.size < (w.alloc (.cells #[.int .i64 2, .int .i64 1] 23)).heap.size := by simp
  have H1 := Aside0.mk (bit_ValidCells.calls 2 1 A0 c0 [oneCell] true (w.alloc (.cells #[.int .i64 2, .int .i64 1] 23)) (Kd.C_below hc hbx) hc0 (by kernel_rfl))
  have H2 : Aside0 (∀ W, Below w.heap.size w W → Calls Tryd.prog 31 #[.agg #[.int .i64 2, .int .i64 1], .slice A0 1 c0] W fun e w' => ∃ A c, e = .returned (.slice A 2 c) ∧ Below W.heap.size W w') := ⟨fun W hW => left_any A0 c0 hc0 W (Kd.C_below hc hW)⟩
  have HBX := Aside0.mk hbx
  clear hc hbx hc0
  go_enter Tryd.func12, Tryd.ntmps12
  go_wp2_with (first
    | (go_at_call 11; refine H1.out.mono ?_; rintro e w1 ⟨rfl, hb1⟩; have k0 := (hb1.cell (p := ⟨w.heap.size, 0, none⟩) hlt).trans hbc; have k1 := (hb1.cell (p := ⟨w.heap.size, 1, none⟩) hlt).trans hbc2; have HB1 := Aside0.mk (below_step HBX.out hb1); clear hb1)
    | (go_at_call 31; refine (H2.out _ HB1.out).mono ?_; rintro e w2 ⟨A, c, rfl, hb2⟩))
  go_ret2
  exact ⟨rfl, below_step HB1.out hb2⟩
set_option maxHeartbeats 2000000 in
set_option maxRecDepth 100000 in
theorem sight_any (r : Nat) (w : World) (hr : RowAt w r (1, 1)) :
    Calls Tryd.prog 13 #[.agg #[.int .i64 2, .int .i64 1], .slice (some ⟨r, 0, none⟩) 2 2] w fun e w' => e = .returned (.tuple #[.agg #[.int .i64 0, .int .i64 2], .int .i64 0]) ∧ Below w.heap.size w w' := by
  have hu := Tryd.underlying23
  have hu2 := Tryd.underlying40
  have hbx := (below_box w (.cells #[.int .i64 2, .int .i64 1] 23)).trans ((below_box _ (.cells #[.int .i64 0, .int .i64 0] 40)).mono (by simp))
  have hf : ((w.alloc (.cells #[.int .i64 2, .int .i64 1] 23)).alloc (.cells #[.int .i64 0, .int .i64 0] 40)).heap[w.heap.size]? = some (.cells #[.int .i64 2, .int .i64 1] 23 (0, 0)) := blk_alloc (blk_new _ _) _
  have hs : ((w.alloc (.cells #[.int .i64 2, .int .i64 1] 23)).alloc (.cells #[.int .i64 0, .int .i64 0] 40)).heap[w.heap.size + 1]? = some (.cells #[.int .i64 0, .int .i64 0] 40 (0, 0)) := by
    have := blk_new (w.alloc (.cells #[.int .i64 2, .int .i64 1] 23)) (.cells #[.int .i64 0, .int .i64 0] 40)
    rwa [World.size_alloc] at this
  have hvf := fun W => validField_any 2 1 W
  have hfb : fieldB 2 1 = true := by decide
  simp only [hfb] at hvf
  go_enter Tryd.func13, Tryd.ntmps13
  go_upto_region 1 with fail
  generalize (w.alloc (.cells #[.int .i64 2, .int .i64 1] 23)).alloc (.cells #[.int .i64 0, .int .i64 0] 40) = W0 at *
  have hl0 := blk_lt hf
  have hl1 := blk_lt hs
  have HF := Aside0.mk hf
  have HS := Aside0.mk hs
  have HR0 : Aside0 (RowAt W0 r (1, 1)) := ⟨(hbx.block r hr.lt).trans hr⟩
  have HBX := Aside0.mk hbx
  have h0 : W0.cell? ⟨w.heap.size, 0, none⟩ = some (.int .i64 2) := (blk_cell hf 0).trans rfl
  have h1 : W0.cell? ⟨w.heap.size, 1, none⟩ = some (.int .i64 1) := (blk_cell hf 1).trans rfl
  have hvr : Aside0 (∀ W, Below W0.heap.size W0 W → Calls Tryd.prog 32 #[.int .i64 2, .slice (some ⟨r, 0, none⟩) 2 2] W fun e w' => e = .returned (.bool true) ∧ Below W.heap.size W w') := ⟨fun W hW => bit_validRow.calls 2 (some ⟨r, 0, none⟩) 2 [1, 1] true W (Kd.C_below HR0.out.C hW) (by decide) (by kernel_rfl)⟩
  clear hf hs hbx hr
  go_wp2_with (first
    | (go_at_call 27; refine (hvf _).mono ?_; rintro e w1 ⟨rfl, hb1⟩; have k0 := (hb1.cell (p := ⟨w.heap.size, 0, none⟩) hl0).trans h0; have k1 := (hb1.cell (p := ⟨w.heap.size, 1, none⟩) hl0).trans h1; have HB1 := Aside0.mk hb1; clear hb1)
    | (go_at_call 32; refine (hvr.out _ HB1.out).mono ?_; rintro e w2 ⟨rfl, hb2⟩; have HB2 := Aside0.mk (below_step HB1.out hb2); clear hb2))
  clear h0 h1 hvf hvr HB1 k0 k1
  have hW3 : Below W0.heap.size W0 (w2.alloc (.cells #[.int .i64 0, .int .i64 0] 40)) := HB2.out.alloc HB2.out.size _
  have HSS : Aside0 ((w2.alloc (.cells #[.int .i64 0, .int .i64 0] 40)).heap[w2.heap.size]? = some (.cells #[.int .i64 0, .int .i64 0] 40 (0, 0))) := ⟨blk_new _ _⟩
  have HN : Aside0 (W0.heap.size ≤ w2.heap.size) := ⟨HB2.out.size⟩
  have HW3 := Aside0.mk hW3
  clear hW3
  generalize w2.alloc (.cells #[.int .i64 0, .int .i64 0] 40) = W3 at *
  go_loopg [22] 2 (fun gg s22 wr => ∃ (k : Nat), k ≤ 2 ∧ 2 - k ≤ gg ∧ s22 = .int .i64 k ∧ Aside0 (Below W0.heap.size W0 wr) ∧ Aside0 (wr.heap[w2.heap.size]? = some (.cells #[.int .i64 0, .int .i64 k] 40 (0, 0))))
  case atStart => exact ⟨0, by omega, by omega, by go_num, HW3, HSS⟩
  case round =>
    obtain ⟨k, hk, hg, rfl, HB, HC⟩ := hrel
    have HF1 := Aside0.mk ((HB.out.block _ hl0).trans HF.out)
    have HS1 := Aside0.mk ((HB.out.block _ hl1).trans HS.out)
    have HR1 : Aside0 (RowAt wr r (1, 1)) := ⟨(HB.out.block r HR0.out.lt).trans HR0.out⟩
    have f1 : wr.cell? ⟨w.heap.size, 1, none⟩ = some (.int .i64 1) := (blk_cell HF1.out 1).trans rfl
    have r0 : wr.cell? ⟨r, 0, none⟩ = some (.int .i64 1) := HR1.out.c0
    have r1 : wr.cell? ⟨r, 1, none⟩ = some (.int .i64 1) := HR1.out.c1
    have q0 : wr.cell? ⟨w2.heap.size, 0, none⟩ = some (.int .i64 0) := (blk_cell HC.out 0).trans rfl
    have q1 : wr.cell? ⟨w2.heap.size, 1, none⟩ = some (.int .i64 k) := (blk_cell HC.out 1).trans rfl
    have z0 := blk_frozen HC.out 0
    have z1 := blk_frozen HC.out 1
    by_cases hlt : k < 2
    · have hltz : (k : Int) < 2 := by omega
      have hk01 : k = 0 ∨ k = 1 := by omega
      rcases hk01 with rfl | rfl
      · go_upto_region 7 with fail
        refine start_ (n := 20) (S := fun w' => w'.cell? ⟨w2.heap.size, 0, none⟩ = some (.int .i64 0) ∧ w'.cell? ⟨w2.heap.size, 1, none⟩ = some (.int .i64 0) ∧ w'.cell? ⟨w.heap.size, 1, none⟩ = some (.int .i64 1)) (ds := [19]) #[false, false, false, false, false, false, false, false, false, false, false, false, false, false, false, false, false, false, false, false] (by kernel_rfl) rfl rfl ⟨q0, q1, f1⟩ (fun hHeld => ?_)
        have HB2 := Aside0.mk (below_drew1 HB.out)
        have HC2 := Aside0.mk (blk_drew HC.out)
        have HF2 := Aside0.mk (blk_drew HF1.out)
        clear f1 r0 r1 q0 q1 z0 z1 HB HC HF1 HS1 HR1
        generalize wr.drew = wd at *
        refine pure_ (i := 0) (N := some 26) (v := ?_) (a' := ?_) #[true, false, false, false, false, false, false, false, false, false, false, false, false, false, false, false, false, false, false, false] rfl rfl (by kernel_rfl) (fun _ _ _ h => h) (Or.inl ⟨by rfl, ?_⟩) ?_ ?_
        rotate_left
        · intro w'
          go_simp
          with_reducible rfl
        rotate_left
        · simp only [Act.put, List.setIfInBounds_toArray, List.set_cons_zero, List.set_cons_succ, wr0, wr1, wr2]
          rfl
        refine take_ (i := 1) (N := some 27) (v := ?_) (a' := ?_) #[true, true, false, false, false, false, false, false, false, false, false, false, false, false, false, false, false, false, false, false] rfl rfl (by kernel_rfl) (fun _ _ _ h => h) (Or.inl ⟨by rfl, ?_⟩) hHeld ?_ ?_
        rotate_left
        · rintro w' ⟨s0, s1, s2⟩
          go_simp
          with_reducible rfl
        rotate_left
        · simp only [Act.put, List.setIfInBounds_toArray, List.set_cons_zero, List.set_cons_succ, wr0, wr1, wr2]
          rfl
        refine pure_ (i := 2) (N := some 28) (v := ?_) (a' := ?_) #[true, true, true, false, false, false, false, false, false, false, false, false, false, false, false, false, false, false, false, false] rfl rfl (by kernel_rfl) (fun _ _ _ h => h) (Or.inl ⟨by rfl, ?_⟩) ?_ ?_
        rotate_left
        · intro w'
          go_simp
          with_reducible rfl
        rotate_left
        · simp only [Act.put, List.setIfInBounds_toArray, List.set_cons_zero, List.set_cons_succ, wr0, wr1, wr2]
          rfl
        refine pure_ (i := 3) (N := some 29) (v := ?_) (a' := ?_) #[true, true, true, true, false, false, false, false, false, false, false, false, false, false, false, false, false, false, false, false] rfl rfl (by kernel_rfl) (fun _ _ _ h => h) (Or.inl ⟨by rfl, ?_⟩) ?_ ?_
        rotate_left
        · intro w'
          go_simp
          with_reducible rfl
        rotate_left
        · simp only [Act.put, List.setIfInBounds_toArray, List.set_cons_zero, List.set_cons_succ, wr0, wr1, wr2]
          rfl
        refine pure_ (i := 4) (N := some 30) (v := ?_) (a' := ?_) #[true, true, true, true, true, false, false, false, false, false, false, false, false, false, false, false, false, false, false, false] rfl rfl (by kernel_rfl) (fun _ _ _ h => h) (Or.inl ⟨by rfl, ?_⟩) ?_ ?_
        rotate_left
        · intro w'
          go_simp
          with_reducible rfl
        rotate_left
        · simp only [Act.put, List.setIfInBounds_toArray, List.set_cons_zero, List.set_cons_succ, wr0, wr1, wr2]
          rfl
        refine take_ (i := 5) (N := some 31) (v := ?_) (a' := ?_) #[true, true, true, true, true, true, false, false, false, false, false, false, false, false, false, false, false, false, false, false] rfl rfl (by kernel_rfl) (fun _ _ _ h => h) (Or.inl ⟨by rfl, ?_⟩) hHeld ?_ ?_
        rotate_left
        · rintro w' ⟨s0, s1, s2⟩
          go_simp
          with_reducible rfl
        rotate_left
        · simp only [Act.put, List.setIfInBounds_toArray, List.set_cons_zero, List.set_cons_succ, wr0, wr1, wr2]
          rfl
        refine pure_ (i := 6) (N := some 32) (v := ?_) (a' := ?_) #[true, true, true, true, true, true, true, false, false, false, false, false, false, false, false, false, false, false, false, false] rfl rfl (by kernel_rfl) (fun _ _ _ h => h) (Or.inl ⟨by rfl, ?_⟩) ?_ ?_
        rotate_left
        · intro w'
          go_simp
          with_reducible rfl
        rotate_left
        · simp only [Act.put, List.setIfInBounds_toArray, List.set_cons_zero, List.set_cons_succ, wr0, wr1, wr2]
          rfl
        refine pure_ (i := 7) (N := some 33) (v := ?_) (a' := ?_) #[true, true, true, true, true, true, true, true, false, false, false, false, false, false, false, false, false, false, false, false] rfl rfl (by kernel_rfl) (fun _ _ _ h => h) (Or.inl ⟨by rfl, ?_⟩) ?_ ?_
        rotate_left
        · intro w'
          go_simp
          with_reducible rfl
        rotate_left
        · simp only [Act.put, List.setIfInBounds_toArray, List.set_cons_zero, List.set_cons_succ, wr0, wr1, wr2]
          rfl
        refine pure_ (i := 8) (N := some 34) (v := ?_) (a' := ?_) #[true, true, true, true, true, true, true, true, true, false, false, false, false, false, false, false, false, false, false, false] rfl rfl (by kernel_rfl) (fun _ _ _ h => h) (Or.inl ⟨by rfl, ?_⟩) ?_ ?_
        rotate_left
        · intro w'
          go_simp
          with_reducible rfl
        rotate_left
        · simp only [Act.put, List.setIfInBounds_toArray, List.set_cons_zero, List.set_cons_succ, wr0, wr1, wr2]
          rfl
        refine take_ (i := 9) (N := some 35) (v := ?_) (a' := ?_) #[true, true, true, true, true, true, true, true, true, true, false, false, false, false, false, false, false, false, false, false] rfl rfl (by kernel_rfl) (fun _ _ _ h => h) (Or.inl ⟨by rfl, ?_⟩) hHeld ?_ ?_
        rotate_left
        · rintro w' ⟨s0, s1, s2⟩
          go_simp
          with_reducible rfl
        rotate_left
        · simp only [Act.put, List.setIfInBounds_toArray, List.set_cons_zero, List.set_cons_succ, wr0, wr1, wr2]
          rfl
        refine pure_ (i := 10) (N := some 36) (v := ?_) (a' := ?_) #[true, true, true, true, true, true, true, true, true, true, true, false, false, false, false, false, false, false, false, false] rfl rfl (by kernel_rfl) (fun _ _ _ h => h) (Or.inl ⟨by rfl, ?_⟩) ?_ ?_
        rotate_left
        · intro w'
          go_simp
          with_reducible rfl
        rotate_left
        · simp only [Act.put, List.setIfInBounds_toArray, List.set_cons_zero, List.set_cons_succ, wr0, wr1, wr2]
          rfl
        refine pure_ (i := 11) (N := some 37) (v := ?_) (a' := ?_) #[true, true, true, true, true, true, true, true, true, true, true, true, false, false, false, false, false, false, false, false] rfl rfl (by kernel_rfl) (fun _ _ _ h => h) (Or.inl ⟨by rfl, ?_⟩) ?_ ?_
        rotate_left
        · intro w'
          go_simp
          with_reducible rfl
        rotate_left
        · simp only [Act.put, List.setIfInBounds_toArray, List.set_cons_zero, List.set_cons_succ, wr0, wr1, wr2]
          rfl
        refine pure_ (i := 12) (N := some 38) (v := ?_) (a' := ?_) #[true, true, true, true, true, true, true, true, true, true, true, true, true, false, false, false, false, false, false, false] rfl rfl (by kernel_rfl) (fun _ _ _ h => h) (Or.inl ⟨by rfl, ?_⟩) ?_ ?_
        rotate_left
        · intro w'
          go_simp
          with_reducible rfl
        rotate_left
        · simp only [Act.put, List.setIfInBounds_toArray, List.set_cons_zero, List.set_cons_succ, wr0, wr1, wr2]
          rfl
        refine take_ (i := 13) (N := some 39) (v := ?_) (a' := ?_) #[true, true, true, true, true, true, true, true, true, true, true, true, true, true, false, false, false, false, false, false] rfl rfl (by kernel_rfl) (fun _ _ _ h => h) (Or.inl ⟨by rfl, ?_⟩) hHeld ?_ ?_
        rotate_left
        · rintro w' ⟨s0, s1, s2⟩
          go_simp
          with_reducible rfl
        rotate_left
        · simp only [Act.put, List.setIfInBounds_toArray, List.set_cons_zero, List.set_cons_succ, wr0, wr1, wr2]
          rfl
        refine pure_ (i := 14) (N := some 40) (v := ?_) (a' := ?_) #[true, true, true, true, true, true, true, true, true, true, true, true, true, true, true, false, false, false, false, false] rfl rfl (by kernel_rfl) (fun _ _ _ h => h) (Or.inl ⟨by rfl, ?_⟩) ?_ ?_
        rotate_left
        · intro w'
          go_simp
          with_reducible rfl
        rotate_left
        · simp only [Act.put, List.setIfInBounds_toArray, List.set_cons_zero, List.set_cons_succ, wr0, wr1, wr2]
          rfl
        refine pure_ (i := 15) (N := some 41) (v := ?_) (a' := ?_) #[true, true, true, true, true, true, true, true, true, true, true, true, true, true, true, true, false, false, false, false] rfl rfl (by kernel_rfl) (fun _ _ _ h => h) (Or.inl ⟨by rfl, ?_⟩) ?_ ?_
        rotate_left
        · intro w'
          go_simp
          with_reducible rfl
        rotate_left
        · simp only [Act.put, List.setIfInBounds_toArray, List.set_cons_zero, List.set_cons_succ, wr0, wr1, wr2]
          rfl
        refine pure_ (i := 16) (N := some 42) (v := ?_) (a' := ?_) #[true, true, true, true, true, true, true, true, true, true, true, true, true, true, true, true, true, false, false, false] rfl rfl (by kernel_rfl) (fun _ _ _ h => h) (Or.inl ⟨by rfl, ?_⟩) ?_ ?_
        rotate_left
        · intro w'
          go_simp
          with_reducible rfl
        rotate_left
        · simp only [Act.put, List.setIfInBounds_toArray, List.set_cons_zero, List.set_cons_succ, wr0, wr1, wr2]
          rfl
        have z0 := blk_frozen HC2.out 0
        refine one_ (i := 17) (N := none) #[true, true, true, true, true, true, true, true, true, true, true, true, true, true, true, true, true, true, false, false] rfl rfl (by kernel_rfl) (by decide) (fun K hK => ?_)
        go_simp
        have HC3 : Aside0 ((wd.setCell ⟨w2.heap.size, 0, none⟩ (.int .i64 0)).heap[w2.heap.size]? = some (.cells #[.int .i64 0, .int .i64 0] 40 (0, 0))) := ⟨blk_put HC2.out 0 _ rfl⟩
        have HB3 : Aside0 (Below W0.heap.size W0 (wd.setCell ⟨w2.heap.size, 0, none⟩ (.int .i64 0))) := ⟨below_set HB2.out HN.out⟩
        have HF3 : Aside0 ((wd.setCell ⟨w2.heap.size, 0, none⟩ (.int .i64 0)).heap[w.heap.size]? = _) := ⟨(HB3.out.block _ hl0).trans HF.out⟩
        refine hK.out _ _ ⟨(blk_cell HC3.out 0).trans rfl, (blk_cell HC3.out 1).trans rfl, (blk_cell HF3.out 1).trans rfl⟩ (fun hHeld2 => ?_)
        clear hK K hHeld z0 HC2 HB2 HF2
        have hHeld := hHeld2
        clear hHeld2
        generalize wd.setCell ⟨w2.heap.size, 0, none⟩ (.int .i64 0) = we at *
        refine pure_ (i := 18) (N := some 43) (v := ?_) (a' := ?_) #[true, true, true, true, true, true, true, true, true, true, true, true, true, true, true, true, true, true, true, false] rfl rfl (by kernel_rfl) (fun _ _ _ h => h) (Or.inl ⟨by rfl, ?_⟩) ?_ ?_
        rotate_left
        · intro w'
          go_simp
          with_reducible rfl
        rotate_left
        · simp only [Act.put, List.setIfInBounds_toArray, List.set_cons_zero, List.set_cons_succ, wr0, wr1, wr2]
          rfl
        have z1 := blk_frozen HC3.out 1
        have hq1 := hHeld.2.1
        refine last_ (i := 19) (N := none) #[true, true, true, true, true, true, true, true, true, true, true, true, true, true, true, true, true, true, true, true] rfl rfl (by kernel_rfl) (by decide) (fun K hK => ?_)
        go_simp
        refine hK.out _ _ ?_
        clear hK K
        refine done_ (by kernel_rfl) ?_
        have HC4 : Aside0 ((we.setCell ⟨w2.heap.size, 1, none⟩ (.int .i64 1)).heap[w2.heap.size]? = some (.cells #[.int .i64 0, .int .i64 1] 40 (0, 0))) := ⟨blk_put HC3.out 1 _ rfl⟩
        have HB4 : Aside0 (Below W0.heap.size W0 (we.setCell ⟨w2.heap.size, 1, none⟩ (.int .i64 1))) := ⟨below_set HB3.out HN.out⟩
        clear z1 hq1 hHeld HC3 HB3 HF3
        go_wp2_with fail
        go_roundg (2 - 1)
        case measure => omega
        case rel => exact ⟨1, by omega, by omega, by go_num, HB4, HC4⟩
      · go_upto_region 7 with fail
        refine start_ (n := 20) (S := fun w' => w'.cell? ⟨w2.heap.size, 0, none⟩ = some (.int .i64 0) ∧ w'.cell? ⟨w2.heap.size, 1, none⟩ = some (.int .i64 1) ∧ w'.cell? ⟨w.heap.size, 1, none⟩ = some (.int .i64 1)) (ds := [19]) #[false, false, false, false, false, false, false, false, false, false, false, false, false, false, false, false, false, false, false, false] (by kernel_rfl) rfl rfl ⟨q0, q1, f1⟩ (fun hHeld => ?_)
        have HB2 := Aside0.mk (below_drew1 HB.out)
        have HC2 := Aside0.mk (blk_drew HC.out)
        have HF2 := Aside0.mk (blk_drew HF1.out)
        clear f1 r0 r1 q0 q1 z0 z1 HB HC HF1 HS1 HR1
        generalize wr.drew = wd at *
        refine pure_ (i := 0) (N := some 26) (v := ?_) (a' := ?_) #[true, false, false, false, false, false, false, false, false, false, false, false, false, false, false, false, false, false, false, false] rfl rfl (by kernel_rfl) (fun _ _ _ h => h) (Or.inl ⟨by rfl, ?_⟩) ?_ ?_
        rotate_left
        · intro w'
          go_simp
          with_reducible rfl
        rotate_left
        · simp only [Act.put, List.setIfInBounds_toArray, List.set_cons_zero, List.set_cons_succ, wr0, wr1, wr2]
          rfl
        refine take_ (i := 1) (N := some 27) (v := ?_) (a' := ?_) #[true, true, false, false, false, false, false, false, false, false, false, false, false, false, false, false, false, false, false, false] rfl rfl (by kernel_rfl) (fun _ _ _ h => h) (Or.inl ⟨by rfl, ?_⟩) hHeld ?_ ?_
        rotate_left
        · rintro w' ⟨s0, s1, s2⟩
          go_simp
          with_reducible rfl
        rotate_left
        · simp only [Act.put, List.setIfInBounds_toArray, List.set_cons_zero, List.set_cons_succ, wr0, wr1, wr2]
          rfl
        refine pure_ (i := 2) (N := some 28) (v := ?_) (a' := ?_) #[true, true, true, false, false, false, false, false, false, false, false, false, false, false, false, false, false, false, false, false] rfl rfl (by kernel_rfl) (fun _ _ _ h => h) (Or.inl ⟨by rfl, ?_⟩) ?_ ?_
        rotate_left
        · intro w'
          go_simp
          with_reducible rfl
        rotate_left
        · simp only [Act.put, List.setIfInBounds_toArray, List.set_cons_zero, List.set_cons_succ, wr0, wr1, wr2]
          rfl
        refine pure_ (i := 3) (N := some 29) (v := ?_) (a' := ?_) #[true, true, true, true, false, false, false, false, false, false, false, false, false, false, false, false, false, false, false, false] rfl rfl (by kernel_rfl) (fun _ _ _ h => h) (Or.inl ⟨by rfl, ?_⟩) ?_ ?_
        rotate_left
        · intro w'
          go_simp
          with_reducible rfl
        rotate_left
        · simp only [Act.put, List.setIfInBounds_toArray, List.set_cons_zero, List.set_cons_succ, wr0, wr1, wr2]
          rfl
        refine pure_ (i := 4) (N := some 30) (v := ?_) (a' := ?_) #[true, true, true, true, true, false, false, false, false, false, false, false, false, false, false, false, false, false, false, false] rfl rfl (by kernel_rfl) (fun _ _ _ h => h) (Or.inl ⟨by rfl, ?_⟩) ?_ ?_
        rotate_left
        · intro w'
          go_simp
          with_reducible rfl
        rotate_left
        · simp only [Act.put, List.setIfInBounds_toArray, List.set_cons_zero, List.set_cons_succ, wr0, wr1, wr2]
          rfl
        refine take_ (i := 5) (N := some 31) (v := ?_) (a' := ?_) #[true, true, true, true, true, true, false, false, false, false, false, false, false, false, false, false, false, false, false, false] rfl rfl (by kernel_rfl) (fun _ _ _ h => h) (Or.inl ⟨by rfl, ?_⟩) hHeld ?_ ?_
        rotate_left
        · rintro w' ⟨s0, s1, s2⟩
          go_simp
          with_reducible rfl
        rotate_left
        · simp only [Act.put, List.setIfInBounds_toArray, List.set_cons_zero, List.set_cons_succ, wr0, wr1, wr2]
          rfl
        refine pure_ (i := 6) (N := some 32) (v := ?_) (a' := ?_) #[true, true, true, true, true, true, true, false, false, false, false, false, false, false, false, false, false, false, false, false] rfl rfl (by kernel_rfl) (fun _ _ _ h => h) (Or.inl ⟨by rfl, ?_⟩) ?_ ?_
        rotate_left
        · intro w'
          go_simp
          with_reducible rfl
        rotate_left
        · simp only [Act.put, List.setIfInBounds_toArray, List.set_cons_zero, List.set_cons_succ, wr0, wr1, wr2]
          rfl
        refine pure_ (i := 7) (N := some 33) (v := ?_) (a' := ?_) #[true, true, true, true, true, true, true, true, false, false, false, false, false, false, false, false, false, false, false, false] rfl rfl (by kernel_rfl) (fun _ _ _ h => h) (Or.inl ⟨by rfl, ?_⟩) ?_ ?_
        rotate_left
        · intro w'
          go_simp
          with_reducible rfl
        rotate_left
        · simp only [Act.put, List.setIfInBounds_toArray, List.set_cons_zero, List.set_cons_succ, wr0, wr1, wr2]
          rfl
        refine pure_ (i := 8) (N := some 34) (v := ?_) (a' := ?_) #[true, true, true, true, true, true, true, true, true, false, false, false, false, false, false, false, false, false, false, false] rfl rfl (by kernel_rfl) (fun _ _ _ h => h) (Or.inl ⟨by rfl, ?_⟩) ?_ ?_
        rotate_left
        · intro w'
          go_simp
          with_reducible rfl
        rotate_left
        · simp only [Act.put, List.setIfInBounds_toArray, List.set_cons_zero, List.set_cons_succ, wr0, wr1, wr2]
          rfl
        refine take_ (i := 9) (N := some 35) (v := ?_) (a' := ?_) #[true, true, true, true, true, true, true, true, true, true, false, false, false, false, false, false, false, false, false, false] rfl rfl (by kernel_rfl) (fun _ _ _ h => h) (Or.inl ⟨by rfl, ?_⟩) hHeld ?_ ?_
        rotate_left
        · rintro w' ⟨s0, s1, s2⟩
          go_simp
          with_reducible rfl
        rotate_left
        · simp only [Act.put, List.setIfInBounds_toArray, List.set_cons_zero, List.set_cons_succ, wr0, wr1, wr2]
          rfl
        refine pure_ (i := 10) (N := some 36) (v := ?_) (a' := ?_) #[true, true, true, true, true, true, true, true, true, true, true, false, false, false, false, false, false, false, false, false] rfl rfl (by kernel_rfl) (fun _ _ _ h => h) (Or.inl ⟨by rfl, ?_⟩) ?_ ?_
        rotate_left
        · intro w'
          go_simp
          with_reducible rfl
        rotate_left
        · simp only [Act.put, List.setIfInBounds_toArray, List.set_cons_zero, List.set_cons_succ, wr0, wr1, wr2]
          rfl
        refine pure_ (i := 11) (N := some 37) (v := ?_) (a' := ?_) #[true, true, true, true, true, true, true, true, true, true, true, true, false, false, false, false, false, false, false, false] rfl rfl (by kernel_rfl) (fun _ _ _ h => h) (Or.inl ⟨by rfl, ?_⟩) ?_ ?_
        rotate_left
        · intro w'
          go_simp
          with_reducible rfl
        rotate_left
        · simp only [Act.put, List.setIfInBounds_toArray, List.set_cons_zero, List.set_cons_succ, wr0, wr1, wr2]
          rfl
        refine pure_ (i := 12) (N := some 38) (v := ?_) (a' := ?_) #[true, true, true, true, true, true, true, true, true, true, true, true, true, false, false, false, false, false, false, false] rfl rfl (by kernel_rfl) (fun _ _ _ h => h) (Or.inl ⟨by rfl, ?_⟩) ?_ ?_
        rotate_left
        · intro w'
          go_simp
          with_reducible rfl
        rotate_left
        · simp only [Act.put, List.setIfInBounds_toArray, List.set_cons_zero, List.set_cons_succ, wr0, wr1, wr2]
          rfl
        refine take_ (i := 13) (N := some 39) (v := ?_) (a' := ?_) #[true, true, true, true, true, true, true, true, true, true, true, true, true, true, false, false, false, false, false, false] rfl rfl (by kernel_rfl) (fun _ _ _ h => h) (Or.inl ⟨by rfl, ?_⟩) hHeld ?_ ?_
        rotate_left
        · rintro w' ⟨s0, s1, s2⟩
          go_simp
          with_reducible rfl
        rotate_left
        · simp only [Act.put, List.setIfInBounds_toArray, List.set_cons_zero, List.set_cons_succ, wr0, wr1, wr2]
          rfl
        refine pure_ (i := 14) (N := some 40) (v := ?_) (a' := ?_) #[true, true, true, true, true, true, true, true, true, true, true, true, true, true, true, false, false, false, false, false] rfl rfl (by kernel_rfl) (fun _ _ _ h => h) (Or.inl ⟨by rfl, ?_⟩) ?_ ?_
        rotate_left
        · intro w'
          go_simp
          with_reducible rfl
        rotate_left
        · simp only [Act.put, List.setIfInBounds_toArray, List.set_cons_zero, List.set_cons_succ, wr0, wr1, wr2]
          rfl
        refine pure_ (i := 15) (N := some 41) (v := ?_) (a' := ?_) #[true, true, true, true, true, true, true, true, true, true, true, true, true, true, true, true, false, false, false, false] rfl rfl (by kernel_rfl) (fun _ _ _ h => h) (Or.inl ⟨by rfl, ?_⟩) ?_ ?_
        rotate_left
        · intro w'
          go_simp
          with_reducible rfl
        rotate_left
        · simp only [Act.put, List.setIfInBounds_toArray, List.set_cons_zero, List.set_cons_succ, wr0, wr1, wr2]
          rfl
        refine pure_ (i := 16) (N := some 42) (v := ?_) (a' := ?_) #[true, true, true, true, true, true, true, true, true, true, true, true, true, true, true, true, true, false, false, false] rfl rfl (by kernel_rfl) (fun _ _ _ h => h) (Or.inl ⟨by rfl, ?_⟩) ?_ ?_
        rotate_left
        · intro w'
          go_simp
          with_reducible rfl
        rotate_left
        · simp only [Act.put, List.setIfInBounds_toArray, List.set_cons_zero, List.set_cons_succ, wr0, wr1, wr2]
          rfl
        have z0 := blk_frozen HC2.out 0
        refine one_ (i := 17) (N := none) #[true, true, true, true, true, true, true, true, true, true, true, true, true, true, true, true, true, true, false, false] rfl rfl (by kernel_rfl) (by decide) (fun K hK => ?_)
        go_simp
        have HC3 : Aside0 ((wd.setCell ⟨w2.heap.size, 0, none⟩ (.int .i64 0)).heap[w2.heap.size]? = some (.cells #[.int .i64 0, .int .i64 1] 40 (0, 0))) := ⟨blk_put HC2.out 0 _ rfl⟩
        have HB3 : Aside0 (Below W0.heap.size W0 (wd.setCell ⟨w2.heap.size, 0, none⟩ (.int .i64 0))) := ⟨below_set HB2.out HN.out⟩
        have HF3 : Aside0 ((wd.setCell ⟨w2.heap.size, 0, none⟩ (.int .i64 0)).heap[w.heap.size]? = _) := ⟨(HB3.out.block _ hl0).trans HF.out⟩
        refine hK.out _ _ ⟨(blk_cell HC3.out 0).trans rfl, (blk_cell HC3.out 1).trans rfl, (blk_cell HF3.out 1).trans rfl⟩ (fun hHeld2 => ?_)
        clear hK K hHeld z0 HC2 HB2 HF2
        have hHeld := hHeld2
        clear hHeld2
        generalize wd.setCell ⟨w2.heap.size, 0, none⟩ (.int .i64 0) = we at *
        refine pure_ (i := 18) (N := some 43) (v := ?_) (a' := ?_) #[true, true, true, true, true, true, true, true, true, true, true, true, true, true, true, true, true, true, true, false] rfl rfl (by kernel_rfl) (fun _ _ _ h => h) (Or.inl ⟨by rfl, ?_⟩) ?_ ?_
        rotate_left
        · intro w'
          go_simp
          with_reducible rfl
        rotate_left
        · simp only [Act.put, List.setIfInBounds_toArray, List.set_cons_zero, List.set_cons_succ, wr0, wr1, wr2]
          rfl
        have z1 := blk_frozen HC3.out 1
        have hq1 := hHeld.2.1
        refine last_ (i := 19) (N := none) #[true, true, true, true, true, true, true, true, true, true, true, true, true, true, true, true, true, true, true, true] rfl rfl (by kernel_rfl) (by decide) (fun K hK => ?_)
        go_simp
        refine hK.out _ _ ?_
        clear hK K
        refine done_ (by kernel_rfl) ?_
        have HC4 : Aside0 ((we.setCell ⟨w2.heap.size, 1, none⟩ (.int .i64 2)).heap[w2.heap.size]? = some (.cells #[.int .i64 0, .int .i64 2] 40 (0, 0))) := ⟨blk_put HC3.out 1 _ rfl⟩
        have HB4 : Aside0 (Below W0.heap.size W0 (we.setCell ⟨w2.heap.size, 1, none⟩ (.int .i64 2))) := ⟨below_set HB3.out HN.out⟩
        clear z1 hq1 hHeld HC3 HB3 HF3
        go_wp2_with fail
        go_roundg (2 - 2)
        case measure => omega
        case rel => exact ⟨2, by omega, by omega, by go_num, HB4, HC4⟩
    · have hke : k = 2 := by omega
      subst hke
      have hltz : ¬ ((2 : Nat) : Int) < 2 := by omega
      have q2 : wr.cell? ⟨w2.heap.size, 1, none⟩ = some (.int .i64 2) := q1
      have y0 := blk_frozen HS1.out 0
      have y1 := blk_frozen HS1.out 1
      have g0 : wr.cell? ⟨w.heap.size + 1, 0, none⟩ = some (.int .i64 0) := (blk_cell HS1.out 0).trans rfl
      have g1 : wr.cell? ⟨w.heap.size + 1, 1, none⟩ = some (.int .i64 0) := (blk_cell HS1.out 1).trans rfl
      have HE : Aside0 (((wr.setCell ⟨w.heap.size + 1, 0, none⟩ (.int .i64 0)).setCell ⟨w.heap.size + 1, 1, none⟩ (.int .i64 2)).heap[w.heap.size + 1]? = some (.cells #[.int .i64 0, .int .i64 2] 40 (0, 0))) := ⟨blk_put (blk_put HS1.out 0 (.int .i64 0) rfl) 1 (.int .i64 2) rfl⟩
      have HBE : Aside0 (Below w.heap.size w ((wr.setCell ⟨w.heap.size + 1, 0, none⟩ (.int .i64 0)).setCell ⟨w.heap.size + 1, 1, none⟩ (.int .i64 2))) := ⟨below_set (below_set (below_step HBX.out HB.out) (Nat.le_succ _)) (Nat.le_succ _)⟩
      clear f1 r0 r1 q1 z0 z1
      go_wp2_with fail
      have e0 : ((wr.setCell ⟨w.heap.size + 1, 0, none⟩ (.int .i64 0)).setCell ⟨w.heap.size + 1, 1, none⟩ (.int .i64 2)).cell? ⟨w.heap.size + 1, 0, none⟩ = some (.int .i64 0) := (blk_cell HE.out 0).trans rfl
      have e1 : ((wr.setCell ⟨w.heap.size + 1, 0, none⟩ (.int .i64 0)).setCell ⟨w.heap.size + 1, 1, none⟩ (.int .i64 2)).cell? ⟨w.heap.size + 1, 1, none⟩ = some (.int .i64 2) := (blk_cell HE.out 1).trans rfl
      clear q0 q2 y0 y1 g0 g1
      generalize ((wr.setCell ⟨w.heap.size + 1, 0, none⟩ (.int .i64 0)).setCell ⟨w.heap.size + 1, 1, none⟩ (.int .i64 2)) = we at *
      refine bodyPost_ret (v := .tuple #[.agg #[.int .i64 0, .int .i64 2], .int .i64 0]) ?_ rfl ?_
      · rw [results_cell_tmp rfl]
        go_simp
      · exact ⟨rfl, HBE.out⟩
theorem oneCell_C {W : World} {r b : Nat} (hr : RowAt W r (1, 1)) (hb : W.heap[b]? = some (.cells #[.slice (some ⟨r, 0, none⟩) 2 2, .int .i64 1, .int .i64 1] 36 (0, 0))) : Kd.C k36 W (some ⟨b, 0, none⟩) 1 [oneCell] := by
  refine ⟨rfl, by decide, fun _ => ⟨_, rfl, fun j p hj => ?_⟩⟩
  match j, hj with
  | 0, hj =>
    obtain rfl := Option.some.inj hj
    refine ⟨_, rfl, k36_mk W oneCell (A0 := some ⟨r, 0, none⟩) (c0 := 2) (by decide) hr.C, fun i u hi => ?_⟩
    match i, hi with
    | 0, hi => obtain rfl := Option.some.inj hi; exact (blk_cell hb 0).trans rfl
    | 1, hi => obtain rfl := Option.some.inj hi; exact (blk_cell hb 1).trans rfl
    | 2, hi => obtain rfl := Option.some.inj hi; exact (blk_cell hb 2).trans rfl
set_option maxHeartbeats 2000000 in
set_option maxRecDepth 100000 in
theorem awake_any (w : World) : Calls Tryd.prog 5 #[] w fun e w' => e = .returned (.bool true) ∧ Below w.heap.size w w' := by
  have hu := Tryd.underlying23
  have hu2 := Tryd.underlying40
  have hu3 := Tryd.underlying36
  go_enter Tryd.func5, Tryd.ntmps5
  go_upto_region 2 with fail
  have hx := blk_new w (.cells #[.int .i64 2, .int .i64 1] 23)
  have hb1 := below_box w (.cells #[.int .i64 2, .int .i64 1] 23)
  generalize w.alloc (.cells #[.int .i64 2, .int .i64 1] 23) = W1 at *
  have hr3 : RowAt ((W1.alloc (.cells #[.int .i64 1, .int .i64 1] 3)).alloc (.cells #[.slice (some ⟨W1.heap.size, 0, none⟩) 2 2, .int .i64 1, .int .i64 1] 36)) W1.heap.size (1, 1) := blk_alloc (blk_new W1 (.cells #[.int .i64 1, .int .i64 1] 3)) _
  have hc3 : ((W1.alloc (.cells #[.int .i64 1, .int .i64 1] 3)).alloc (.cells #[.slice (some ⟨W1.heap.size, 0, none⟩) 2 2, .int .i64 1, .int .i64 1] 36)).heap[W1.heap.size + 1]? = some (.cells #[.slice (some ⟨W1.heap.size, 0, none⟩) 2 2, .int .i64 1, .int .i64 1] 36 (0, 0)) := by
    have := blk_new (W1.alloc (.cells #[.int .i64 1, .int .i64 1] 3)) (.cells #[.slice (some ⟨W1.heap.size, 0, none⟩) 2 2, .int .i64 1, .int .i64 1] 36)
    rwa [World.size_alloc] at this
  have hb3 : Below W1.heap.size W1 ((W1.alloc (.cells #[.int .i64 1, .int .i64 1] 3)).alloc (.cells #[.slice (some ⟨W1.heap.size, 0, none⟩) 2 2, .int .i64 1, .int .i64 1] 36)) := (below_box W1 _).trans ((below_box _ _).mono (by simp))
  have HC := Aside0.mk (count_any (some ⟨W1.heap.size + 1, 0, none⟩) 1 (Nat.le_refl _) ((W1.alloc (.cells #[.int .i64 1, .int .i64 1] 3)).alloc (.cells #[.slice (some ⟨W1.heap.size, 0, none⟩) 2 2, .int .i64 1, .int .i64 1] 36)) (oneCell_C hr3 hc3))
  have c0 : W1.cell? ⟨w.heap.size, 0, none⟩ = some (.int .i64 2) := (blk_cell hx 0).trans rfl
  have c1 : W1.cell? ⟨w.heap.size, 1, none⟩ = some (.int .i64 1) := (blk_cell hx 1).trans rfl
  have HX := Aside0.mk hx
  have HB1 := Aside0.mk hb1
  have HB3 := Aside0.mk hb3
  have hlw := blk_lt hx
  clear hx hb1 hr3 hc3 hb3
  go_upto_region 3 with (go_at_call 12; refine HC.out.mono ?_; rintro e w4 ⟨rfl, hb4⟩)
  have HB4 := Aside0.mk (HB3.out.trans (hb4.mono HB3.out.size))
  clear hb4 HC HB3 c0 c1
  have hx4 := (HB4.out.block _ hlw).trans HX.out
  have d0 : w4.cell? ⟨w.heap.size, 0, none⟩ = some (.int .i64 2) := (blk_cell hx4 0).trans rfl
  have d1 : w4.cell? ⟨w.heap.size, 1, none⟩ = some (.int .i64 1) := (blk_cell hx4 1).trans rfl
  have HB5 : Aside0 (Below w.heap.size w (w4.alloc (.cells #[.int .i64 1, .int .i64 1] 3))) := ⟨below_alloc (below_step HB1.out HB4.out) _⟩
  have HS := Aside0.mk (sight_any w4.heap.size (w4.alloc (.cells #[.int .i64 1, .int .i64 1] 3)) (blk_new _ _))
  clear hx4
  go_upto_region 4 with (first | (go_at_call 13; refine HS.out.mono ?_; rintro e w6 ⟨rfl, hb6⟩))
  have q0 : (w6.alloc (.cells #[.int .i64 0, .int .i64 2] 40)).cell? ⟨w6.heap.size, 0, none⟩ = some (.int .i64 0) := by rw [World.cell?_alloc_at _ _ _ _ rfl]; rfl
  have q1 : (w6.alloc (.cells #[.int .i64 0, .int .i64 2] 40)).cell? ⟨w6.heap.size, 1, none⟩ = some (.int .i64 2) := by rw [World.cell?_alloc_at _ _ _ _ rfl]; rfl
  have HB6 : Aside0 (Below w.heap.size w (w6.alloc (.cells #[.int .i64 0, .int .i64 2] 40))) := ⟨below_alloc (below_step HB5.out hb6) _⟩
  clear hb6 d0 d1 HS
  go_wp2_with fail
  go_ret
  exact ⟨rfl, HB6.out⟩
end Go.Proofs.YthmfgbjimdondaaDoor.P
