/-
  Rows, cells and lines: what the program's tests of cells answer, and the plain laws of a line.
-/
import Derived.Test.YthmfgbjimdondaaDoorT1
import Derived.Shelf.Abstract
import Derived.Laws.EntriesVeiled
import Derived.Lib.IndexBytes
import Derived.Lib.CountLaws
import Derived.Lib.SplitLaws
import Derived.Lib.AtoiAll
import Derived.Lib.ItoaNum
/- Hand-proved contracts: slices.IndexFunc and ContainsFunc at []int, []api.Cell: with a predicate that is a closure. -/
namespace Go.Proofs.YthmfgbjimdondaaDoor.P
open Go.RowKit Go.Proofs.YthmfgbjimdondaaDoorW.PrintWords Go.Proofs.YthmfgbjimdondaaDoorW.PrintLast Go.Proofs.YthmfgbjimdondaaDoorW.PrintMore
set_option linter.unusedVariables false
set_option linter.unusedSimpArgs false

/-- The predicate value 'g' with what it has captured answers p of every element of kind d that some later world holds; it changes nothing that lay. -/
def PredC {α : Type} (g : Nat) (lb : Array Value) (d : Kd α) (val : List Value → Value) (p : α → Bool) (ok : α → Prop) (w : World) : Prop :=
  ∀ (x : α) (cs : List Value) (W : World), ok x → Below w.heap.size w W → d.K W x cs →
    Calls Tryd.prog g (#[val cs] ++ lb) W fun e W' => e = .returned (.bool (p x)) ∧ Below W.heap.size W W'
theorem PredC.below {α : Type} {g : Nat} {lb : Array Value} {d : Kd α} {val : List Value → Value} {p : α → Bool} {ok : α → Prop} {w w1 : World} (h : PredC g lb d val p ok w) (hb : Below w.heap.size w w1) : PredC g lb d val p ok w1 :=
  fun x cs W hx hW hK => h x cs W hx (below_step hb hW) hK

set_option maxHeartbeats 1000000 in
theorem indexFunc_int (g : Nat) (lb : Array Value) (p : Int → Bool) (ok : Int → Prop) (A : Option Addr) (c : Nat) (l : List (Int)) (w : World)
    (hr : Kd.C (Kd.int .i64) w A l.length l) (hc : l.length ≤ c) (eg : ∀ args w, (callFunc g args).run Tryd.prog w = .ok (.enter g args) w)
    (hp : PredC g lb (Kd.int .i64) (fun cs => cs.headD undef) p ok w) (hok : ∀ x ∈ l, ok x) :
    Calls Tryd.prog 69 #[.slice A l.length c, .func (.func g) #[] lb] w fun e w' => e = .returned (.int .i64 (firstP p l 0)) ∧ Below w.heap.size w w' := by
  have HR := Aside0.mk hr
  have hlen : l.length ≤ 9223372036854775807 := hr.2.1
  have HP := Aside0.mk hp
  have HOK := Aside0.mk hok
  clear hr hp hok
  go_enter Tryd.func69, Tryd.ntmps69
  go_wp2
  go_loopg [5, 8] l.length (fun gg _ s8 wr => ∃ kk : Nat, kk ≤ l.length ∧ l.length - kk ≤ gg ∧ s8 = .int .i64 kk ∧ Aside0 (Below w.heap.size w wr) ∧ Aside0 (firstP p (l.drop kk) kk = firstP p l 0))
  case atStart => exact ⟨0, Nat.zero_le _, by omega, rfl, ⟨Below.refl _ _⟩, ⟨by rw [List.drop_zero]⟩⟩
  case round =>
    obtain ⟨kk, hkk, hg, rfl, HB, HF⟩ := hrel
    by_cases hlt : kk < l.length
    · have hltz : (kk : Int) < (l.length : Int) := by omega
      obtain ⟨ad, cs, e, hcl, hK, hx0⟩ := Kd.C_get HR.out 0 (kk : Int) (by omega) (by omega)
      cases e
      rw [Int.toNat_natCast] at hK hx0
      obtain ⟨y, hy⟩ : ∃ y, l.getD kk 0 = y := ⟨_, rfl⟩
      rw [hy] at hK
      have HD := Aside0.mk hy
      clear hy
      obtain rfl : cs = [.int .i64 y] := hK
      have hx := hx0 0 _ rfl
      replace hx := (HB.out.cell (World.block_lt_of_cell? w _ hx)).trans hx
      have HK : Aside0 ((Kd.int .i64).K wr y [.int .i64 y]) := ⟨rfl⟩
      rw [show kk * (Kd.int .i64).sz + 0 = kk from by show kk * 1 + 0 = kk; omega] at hx
      clear hx0 hcl
      have hcall := HP.out y _ wr (HOK.out _ (by rw [← HD.out]; exact mem_getD l _ kk hlt)) HB.out HK.out
      cases hq : p y with
      | true =>
        have HQ := Aside0.mk hq
        rw [hq] at hcall
        clear hq
        go_wp2_with (go_at_fn g; refine hcall.mono ?_; rintro e w' ⟨rfl, hb⟩)
        go_ret
        refine ⟨?_, below_step HB.out hb⟩
        rw [← HF.out, firstP_at p l 0 kk hlt (by rw [HD.out]; exact HQ.out)]
        rfl
      | false =>
        have HQ := Aside0.mk hq
        rw [hq] at hcall
        clear hq
        go_wp2_with (go_at_fn g; refine hcall.mono ?_; rintro e w' ⟨rfl, hb⟩)
        go_roundg (l.length - (kk + 1))
        case measure => omega
        case rel => exact ⟨kk + 1, by omega, by omega, by go_num, ⟨below_step HB.out hb⟩, ⟨by rw [← HF.out, firstP_skip p l 0 kk hlt (by rw [HD.out]; exact HQ.out)]⟩⟩
    · have hltz : ¬ (kk : Int) < (l.length : Int) := by omega
      have : kk = l.length := by omega
      subst this
      go_wp2
      go_ret
      exact ⟨by rw [← HF.out, firstP_end]; rfl, HB.out⟩

set_option maxHeartbeats 1000000 in
theorem containsFunc_int (g : Nat) (lb : Array Value) (p : Int → Bool) (ok : Int → Prop) (A : Option Addr) (c : Nat) (l : List (Int)) (w : World)
    (hr : Kd.C (Kd.int .i64) w A l.length l) (hc : l.length ≤ c) (eg : ∀ args w, (callFunc g args).run Tryd.prog w = .ok (.enter g args) w)
    (hp : PredC g lb (Kd.int .i64) (fun cs => cs.headD undef) p ok w) (hok : ∀ x ∈ l, ok x) :
    Calls Tryd.prog 50 #[.slice A l.length c, .func (.func g) #[] lb] w fun e w' => e = .returned (.bool (l.any p)) ∧ Below w.heap.size w w' := by
  have h := indexFunc_int g lb p ok A c l w hr hc eg hp hok
  have HF := Aside0.mk (firstP_any p l 0)
  generalize firstP p l 0 = r at h HF
  clear hr hp hok eg
  go_enter Tryd.func50, Tryd.ntmps50
  go_wp2_with (go_at_call 69; refine h.mono ?_; rintro e w' ⟨rfl, hb⟩)
  go_ret
  exact ⟨by rw [← HF.out]; rfl, hb⟩

set_option maxHeartbeats 1000000 in
theorem indexFunc_cell (g : Nat) (lb : Array Value) (p : S36 → Bool) (ok : S36 → Prop) (A : Option Addr) (c : Nat) (l : List (S36)) (w : World)
    (hr : Kd.C k36 w A l.length l) (hc : l.length ≤ c) (eg : ∀ args w, (callFunc g args).run Tryd.prog w = .ok (.enter g args) w)
    (hp : PredC g lb k36 (fun cs => .agg cs.toArray) p ok w) (hok : ∀ x ∈ l, ok x) :
    Calls Tryd.prog 46 #[.slice A l.length c, .func (.func g) #[] lb] w fun e w' => e = .returned (.int .i64 (firstP p l 0)) ∧ Below w.heap.size w w' := by
  have HR := Aside0.mk hr
  have hlen : l.length ≤ 9223372036854775807 := hr.2.1
  have HP := Aside0.mk hp
  have HOK := Aside0.mk hok
  clear hr hp hok
  have hu := Tryd.underlying36
  go_enter Tryd.func46, Tryd.ntmps46
  go_wp2
  go_loopg [5, 8] l.length (fun gg _ s8 wr => ∃ kk : Nat, kk ≤ l.length ∧ l.length - kk ≤ gg ∧ s8 = .int .i64 kk ∧ Aside0 (Below w.heap.size w wr) ∧ Aside0 (firstP p (l.drop kk) kk = firstP p l 0))
  case atStart => exact ⟨0, Nat.zero_le _, by omega, rfl, ⟨Below.refl _ _⟩, ⟨by rw [List.drop_zero]⟩⟩
  case round =>
    obtain ⟨kk, hkk, hg, rfl, HB, HF⟩ := hrel
    by_cases hlt : kk < l.length
    · have hltz : (kk : Int) < (l.length : Int) := by omega
      obtain ⟨ad, cs, e, hcl, hK, hx0⟩ := Kd.C_get HR.out z36 (kk : Int) (by omega) (by omega)
      cases e
      rw [Int.toNat_natCast] at hK hx0
      obtain ⟨y, hy⟩ : ∃ y, l.getD kk z36 = y := ⟨_, rfl⟩
      rw [hy] at hK
      have HD := Aside0.mk hy
      clear hy
      have HK : Aside0 (k36.K wr y cs) := ⟨Kd.K_below _ HB.out hK⟩
      obtain ⟨A0, c0, rfl, _, _⟩ := k36_open hK
      have hx := hx0 0 _ rfl
      have hx2 := hx0 1 _ rfl
      have hx3 := hx0 2 _ rfl
      replace hx := (HB.out.cell (World.block_lt_of_cell? w _ hx)).trans hx
      replace hx2 := (HB.out.cell (World.block_lt_of_cell? w _ hx2)).trans hx2
      replace hx3 := (HB.out.cell (World.block_lt_of_cell? w _ hx3)).trans hx3
      rw [show kk * k36.sz + 0 = kk * 3 from by show kk * 3 + 0 = kk * 3; omega] at hx
      rw [show kk * k36.sz + 1 = kk * 3 + 1 from by show kk * 3 + 1 = kk * 3 + 1; omega, add_field _ _ 1 (by omega)] at hx2
      rw [show kk * k36.sz + 2 = kk * 3 + 2 from by show kk * 3 + 2 = kk * 3 + 2; omega, add_field _ _ 2 (by omega)] at hx3
      clear hx0 hcl
      have hcall := HP.out y _ wr (HOK.out _ (by rw [← HD.out]; exact mem_getD l _ kk hlt)) HB.out HK.out
      cases hq : p y with
      | true =>
        have HQ := Aside0.mk hq
        rw [hq] at hcall
        clear hq
        go_wp2_with (go_at_fn g; refine hcall.mono ?_; rintro e w' ⟨rfl, hb⟩)
        go_ret
        refine ⟨?_, below_step HB.out hb⟩
        rw [← HF.out, firstP_at p l z36 kk hlt (by rw [HD.out]; exact HQ.out)]
        rfl
      | false =>
        have HQ := Aside0.mk hq
        rw [hq] at hcall
        clear hq
        go_wp2_with (go_at_fn g; refine hcall.mono ?_; rintro e w' ⟨rfl, hb⟩)
        go_roundg (l.length - (kk + 1))
        case measure => omega
        case rel => exact ⟨kk + 1, by omega, by omega, by go_num, ⟨below_step HB.out hb⟩, ⟨by rw [← HF.out, firstP_skip p l z36 kk hlt (by rw [HD.out]; exact HQ.out)]⟩⟩
    · have hltz : ¬ (kk : Int) < (l.length : Int) := by omega
      have : kk = l.length := by omega
      subst this
      go_wp2
      go_ret
      exact ⟨by rw [← HF.out, firstP_end]; rfl, HB.out⟩

set_option maxHeartbeats 1000000 in
theorem containsFunc_cell (g : Nat) (lb : Array Value) (p : S36 → Bool) (ok : S36 → Prop) (A : Option Addr) (c : Nat) (l : List (S36)) (w : World)
    (hr : Kd.C k36 w A l.length l) (hc : l.length ≤ c) (eg : ∀ args w, (callFunc g args).run Tryd.prog w = .ok (.enter g args) w)
    (hp : PredC g lb k36 (fun cs => .agg cs.toArray) p ok w) (hok : ∀ x ∈ l, ok x) :
    Calls Tryd.prog 28 #[.slice A l.length c, .func (.func g) #[] lb] w fun e w' => e = .returned (.bool (l.any p)) ∧ Below w.heap.size w w' := by
  have h := indexFunc_cell g lb p ok A c l w hr hc eg hp hok
  have HF := Aside0.mk (firstP_any p l 0)
  generalize firstP p l 0 = r at h HF
  clear hr hp hok eg
  go_enter Tryd.func28, Tryd.ntmps28
  go_wp2_with (go_at_call 46; refine h.mono ?_; rintro e w' ⟨rfl, hb⟩)
  go_ret
  exact ⟨by rw [← HF.out]; rfl, hb⟩

end Go.Proofs.YthmfgbjimdondaaDoor.P
/- Hand-proved: bit.validRow. -/
namespace Go.Proofs.YthmfgbjimdondaaDoor.P
open Go.RowKit Go.Proofs.YthmfgbjimdondaaDoorW.PrintWords Go.Proofs.YthmfgbjimdondaaDoorW.PrintLast Go.Proofs.YthmfgbjimdondaaDoorW.PrintMore
set_option linter.unusedVariables false
set_option linter.unusedSimpArgs false

theorem enters51 : ∀ args w, (callFunc 51 args).run Tryd.prog w = .ok (.enter 51 args) w := enters_of Tryd.func51 (by kernel_rfl) rfl
theorem bit_within_any (a lo hi : Int) (w : World) : Calls Tryd.prog 40 #[.int .i64 a, .int .i64 lo, .int .i64 hi] w fun e w' => e = .returned (.bool (inB a lo hi)) ∧ Drawn0 w w' :=
  bit_within.calls a lo hi _ w (by unfold bit_within.f inB; by_cases h : lo ≤ a <;> simp [h])

set_option maxHeartbeats 1000000 in
theorem validRow1_pred (w : World) : PredC 51 #[] (Kd.int .i64) (fun cs => cs.headD undef) (fun x => !inB x (-1) 1) (fun _ => True) w := by
  intro x cs W hx hW hK
  obtain rfl : cs = [.int .i64 x] := hK
  have h := bit_within_any x (-1) 1 W
  dsimp only
  generalize inB x (-1) 1 = y at *
  simp only [List.headD_cons, List.append_toArray, List.append_nil]
  go_enter Tryd.func51, Tryd.ntmps51
  go_wp2_with (go_at_call 40; refine h.mono ?_; rintro e w' ⟨rfl, hb⟩)
  go_ret
  exact ⟨rfl, hb.below⟩

def bit_validRow.f (a0 : Int) (l1 : List Int) : Option Bool := some (rowB a0 l1)
set_option maxHeartbeats 1000000 in
theorem bit_validRow.calls (a0 : Int) (A1 : Option Addr) (c1 : Nat) (l1 : List Int) (r : Bool) (w : World) (hr1 : Kd.C (Kd.int .i64) w A1 l1.length l1) (hc1 : l1.length ≤ c1) (h : bit_validRow.f a0 l1 = some r) :
    Calls Tryd.prog 32 #[.int .i64 a0, .slice A1 l1.length c1] w fun e w' => e = .returned (.bool r) ∧ Below w.heap.size w w' := by
  obtain rfl := Option.some.inj h
  clear h
  have hcf := containsFunc_int 51 #[] _ _ A1 c1 l1 w hr1 hc1 enters51 (validRow1_pred w) (fun _ _ => trivial)
  have hlen : l1.length ≤ 9223372036854775807 := hr1.2.1
  have HA : Aside0 ((!l1.any fun x => !inB x (-1) 1) = l1.all fun x => inB x (-1) 1) := ⟨not_any_not (fun x => inB x (-1) 1) l1⟩
  clear hr1
  unfold rowB
  generalize l1.any (fun x => !inB x (-1) 1) = y at *
  generalize (l1.all fun x => inB x (-1) 1) = z at *
  generalize l1.length = n at *
  by_cases hn : (n : Int) = a0
  · have HN := Aside0.mk hn
    have hd : decide ((n : Int) = a0) = true := by simp [hn]
    have hd2 : ((n : Int) == a0) = true := by simp [hn]
    rw [hd]
    clear hn hd
    go_enter Tryd.func32, Tryd.ntmps32
    go_wp2_with (go_at_call 50; refine hcf.mono ?_; rintro e w' ⟨rfl, hb⟩)
    go_ret
    exact ⟨by rw [← HA.out]; rfl, hb⟩
  · have hd : decide ((n : Int) = a0) = false := by simp [hn]
    have hd2 : ((n : Int) == a0) = false := by simp [hn]
    rw [hd]
    clear hn hd
    go_enter Tryd.func32, Tryd.ntmps32
    go_wp2_with fail
    go_ret
    exact ⟨rfl, Below.refl _ _⟩
end Go.Proofs.YthmfgbjimdondaaDoor.P
-- PRINTED by print.py (a twelfth state) out of the translation. Not trusted: Lean checks it.
namespace Go.Proofs.YthmfgbjimdondaaDoor.P
open Go.RowKit Go.Proofs.YthmfgbjimdondaaDoorW.PrintWords Go.Proofs.YthmfgbjimdondaaDoorW.PrintLast Go.Proofs.YthmfgbjimdondaaDoorW.PrintMore
attribute [local go_sem] max2_int min2_int max_two min_two max_three min_three max_four min_four   -- for this text's walks alone
set_option linter.unusedVariables false
set_option linter.unusedSimpArgs false

/-! ### bit_ValidField: function 27 -/
def bit_ValidField.f (a0_0 : Int) (a0_1 : Int) : Option (Bool) := (bit_within.f a0_0 1 8).bind fun t104 => (if t104 = true then ((bit_within.f a0_1 0 3).bind fun t105 => (some t105)) else (some false))
set_option maxHeartbeats 8000000 in
set_option maxRecDepth 100000 in
theorem bit_ValidField.calls (a0_0 : Int) (a0_1 : Int) (r : Bool) (w : World) (h : bit_ValidField.f a0_0 a0_1 = some r) :
    Calls Tryd.prog 27 #[.agg #[.int .i64 a0_0, .int .i64 a0_1]] w fun e w' => e = .returned (.bool r) ∧ Below w.heap.size w w' := by
  have hu23 := Tryd.underlying23
  have HB := Aside0.mk (Below.refl w.heap.size w)
  have H : ((bit_within.f a0_0 1 8).bind fun t104 => (if t104 = true then ((bit_within.f a0_1 0 3).bind fun t105 => (some t105)) else (some false))) = some r := h
  clear h
  replace H := Option.bind_eq_some_iff.mp H
  obtain ⟨t104, A20, H⟩ := H
  replace H : (if t104 = true then ((bit_within.f a0_1 0 3).bind fun t105 => (some t105)) else (some false)) = some r := H
  have A2 := Aside0.mk A20
  clear A20
  by_cases c3 : t104 = true
  · subst c3
    have H1 : ((bit_within.f a0_1 0 3).bind fun t105 => (some t105)) = some r := by rw [if_pos rfl] at H; exact H
    clear H
    have H := H1
    clear H1
    replace H := Option.bind_eq_some_iff.mp H
    obtain ⟨t105, A40, H⟩ := H
    replace H : (some t105) = some r := H
    have A4 := Aside0.mk A40
    clear A40
    obtain rfl := Option.some.inj H
    go_enter Tryd.func27, Tryd.ntmps27
    go_wp2_with (first | ((with_reducible refine gate_dst (N := 1) rfl ?_); refine box_event ?hg (N := 1) ?hd (cs := #[.int .i64 a0_0, .int .i64 a0_1]) (t := 23) ?hr ?_; (case hd => rfl); (case hg => rfl); (case hr => first | (go_simp; done) | (go_simp; rfl)); intro gb103 hg w5 hbox hb; have n0_ := Aside0.mk (below_step (by repeat (first | (with_reducible first | exact HB.out | apply below_alloc | apply pw_below_drewN | apply below_drew1) | exact HB.out)) hb); have n1_ := Aside0.mk (hbox); have n2_ := Aside0.mk ((by rw [hg]; exact (below_size (by repeat (first | (with_reducible first | exact HB.out | apply below_alloc | apply pw_below_drewN | apply below_drew1) | exact HB.out))) : w.heap.size ≤ gb103)); have n3_ := Aside0.mk ((by rw [hg]; exact (below_size (by repeat (first | (with_reducible first | exact HB.out | apply below_alloc | apply pw_below_drewN | apply below_drew1) | exact HB.out))) : w.heap.size ≤ gb103)); clear HB; have HB := n0_; have BK103 := n1_; have GW103 := n2_; have GE103 := n3_; clear n0_ n1_ n2_ n3_; clear hb hbox hg; have hcz6_0 : w5.cell? ⟨gb103, 0, none⟩ = some (.int .i64 a0_0) := (blk_cell BK103.out 0).trans rfl; have hcz6_1 : w5.cell? ⟨gb103, 1, none⟩ = some (.int .i64 a0_1) := (blk_cell BK103.out 1).trans rfl; have hfz6_0 := blk_frozen BK103.out 0; have hfz6_1 := blk_frozen BK103.out 1) | ((with_reducible refine gate_callee (f := 40) rfl ?_); refine goesL_ (some 5) rfl rfl Tryd.func40 (by kernel_rfl) rfl #[.int .i64 a0_0, .int .i64 1, .int .i64 8] rfl (by (try simp only [List.map_toArray, List.map_cons, List.map_nil]); first | done | rfl | (simp only [List.length_drop, List.length_take]; rfl)) ?_; (with_reducible refine (bit_within.calls a0_0 1 8 true _ A2.out).mono ?_); rintro e w' ⟨rfl, ⟨nd, rfl⟩⟩; refine ⟨_, rfl, ?_⟩) | (go_at_call 40; (with_reducible refine (bit_within.calls a0_1 0 3 t105 _ A4.out).mono ?_); rintro e w' ⟨rfl, ⟨nd, rfl⟩⟩))
    go_ret
    exact ⟨by first | rfl | (simp [errW_none, errW_some] <;> rfl) | (simp [*, errW_none, errW_some] <;> rfl), by repeat (first | (with_reducible first | exact HB.out | apply below_alloc | apply pw_below_drewN | apply below_drew1 | refine below_set ?_ GE103.out) | exact HB.out)⟩
  · replace c3 := Bool.eq_false_iff.mpr c3
    subst c3
    have H1 : (some false) = some r := by rw [if_neg (show ¬ (false = true) by decide)] at H; exact H
    clear H
    have H := H1
    clear H1
    obtain rfl := Option.some.inj H
    go_enter Tryd.func27, Tryd.ntmps27
    go_wp2_with (first | ((with_reducible refine gate_dst (N := 1) rfl ?_); refine box_event ?hg (N := 1) ?hd (cs := #[.int .i64 a0_0, .int .i64 a0_1]) (t := 23) ?hr ?_; (case hd => rfl); (case hg => rfl); (case hr => first | (go_simp; done) | (go_simp; rfl)); intro gb103 hg w7 hbox hb; have n0_ := Aside0.mk (below_step (by repeat (first | (with_reducible first | exact HB.out | apply below_alloc | apply pw_below_drewN | apply below_drew1) | exact HB.out)) hb); have n1_ := Aside0.mk (hbox); have n2_ := Aside0.mk ((by rw [hg]; exact (below_size (by repeat (first | (with_reducible first | exact HB.out | apply below_alloc | apply pw_below_drewN | apply below_drew1) | exact HB.out))) : w.heap.size ≤ gb103)); have n3_ := Aside0.mk ((by rw [hg]; exact (below_size (by repeat (first | (with_reducible first | exact HB.out | apply below_alloc | apply pw_below_drewN | apply below_drew1) | exact HB.out))) : w.heap.size ≤ gb103)); clear HB; have HB := n0_; have BK103 := n1_; have GW103 := n2_; have GE103 := n3_; clear n0_ n1_ n2_ n3_; clear hb hbox hg; have hcz8_0 : w7.cell? ⟨gb103, 0, none⟩ = some (.int .i64 a0_0) := (blk_cell BK103.out 0).trans rfl; have hcz8_1 : w7.cell? ⟨gb103, 1, none⟩ = some (.int .i64 a0_1) := (blk_cell BK103.out 1).trans rfl; have hfz8_0 := blk_frozen BK103.out 0; have hfz8_1 := blk_frozen BK103.out 1) | ((with_reducible refine gate_callee (f := 40) rfl ?_); refine goesL_ (some 5) rfl rfl Tryd.func40 (by kernel_rfl) rfl #[.int .i64 a0_0, .int .i64 1, .int .i64 8] rfl (by (try simp only [List.map_toArray, List.map_cons, List.map_nil]); first | done | rfl | (simp only [List.length_drop, List.length_take]; rfl)) ?_; (with_reducible refine (bit_within.calls a0_0 1 8 false _ A2.out).mono ?_); rintro e w' ⟨rfl, ⟨nd, rfl⟩⟩; refine ⟨_, rfl, ?_⟩))
    go_ret
    exact ⟨by first | rfl | (simp [errW_none, errW_some] <;> rfl) | (simp [*, errW_none, errW_some] <;> rfl), by repeat (first | (with_reducible first | exact HB.out | apply below_alloc | apply pw_below_drewN | apply below_drew1 | refine below_set ?_ GE103.out) | exact HB.out)⟩

end Go.Proofs.YthmfgbjimdondaaDoor.P
-- PRINTED by print.py (a twelfth state) out of the translation. Not trusted: Lean checks it.
namespace Go.Proofs.YthmfgbjimdondaaDoor.P
open Go.RowKit Go.Proofs.YthmfgbjimdondaaDoorW.PrintWords Go.Proofs.YthmfgbjimdondaaDoorW.PrintLast Go.Proofs.YthmfgbjimdondaaDoorW.PrintMore
attribute [local go_sem] max2_int min2_int max_two min_two max_three min_three max_four min_four   -- for this text's walks alone
set_option linter.unusedVariables false
set_option linter.unusedSimpArgs false

/-! ### bit_validCell: function 30 -/
def bit_validCell.f (a0 : Int) (l1_0 : List Int) (a1_1 : Int) (a1_2 : Int) : Option (Bool) := (bit_validRow.f a0 l1_0).bind fun t192 => (if t192 = true then ((bit_within.f a1_1 (-100) a1_2).bind fun t193 => (if t193 = true then (some (decide (a1_2 ≤ 100))) else (some false))) else (some false))
set_option maxHeartbeats 8000000 in
set_option maxRecDepth 100000 in
theorem bit_validCell.calls (a0 : Int) (A1_0 : Option Addr) (c1_0 : Nat) (l1_0 : List Int) (a1_1 : Int) (a1_2 : Int) (r : Bool) (w : World) (hr1_0 : Kd.C (Kd.int .i64) w A1_0 l1_0.length l1_0) (hc1_0 : l1_0.length ≤ c1_0) (h : bit_validCell.f a0 l1_0 a1_1 a1_2 = some r) :
    Calls Tryd.prog 30 #[.int .i64 a0, .agg #[.slice A1_0 l1_0.length c1_0, .int .i64 a1_1, .int .i64 a1_2]] w fun e w' => e = .returned (.bool r) ∧ Below w.heap.size w w' := by
  have hu36 := Tryd.underlying36
  have HR1_0 := Aside0.mk hr1_0
  have HC1_0 := Aside0.mk hc1_0
  clear hr1_0 hc1_0
  have HB := Aside0.mk (Below.refl w.heap.size w)
  have H : ((bit_validRow.f a0 l1_0).bind fun t192 => (if t192 = true then ((bit_within.f a1_1 (-100) a1_2).bind fun t193 => (if t193 = true then (some (decide (a1_2 ≤ 100))) else (some false))) else (some false))) = some r := h
  clear h
  replace H := Option.bind_eq_some_iff.mp H
  obtain ⟨t192, A30, H⟩ := H
  replace H : (if t192 = true then ((bit_within.f a1_1 (-100) a1_2).bind fun t193 => (if t193 = true then (some (decide (a1_2 ≤ 100))) else (some false))) else (some false)) = some r := H
  have A3 := Aside0.mk A30
  clear A30
  by_cases c4 : t192 = true
  · subst c4
    have H1 : ((bit_within.f a1_1 (-100) a1_2).bind fun t193 => (if t193 = true then (some (decide (a1_2 ≤ 100))) else (some false))) = some r := by rw [if_pos rfl] at H; exact H
    clear H
    have H := H1
    clear H1
    replace H := Option.bind_eq_some_iff.mp H
    obtain ⟨t193, A50, H⟩ := H
    replace H : (if t193 = true then (some (decide (a1_2 ≤ 100))) else (some false)) = some r := H
    have A5 := Aside0.mk A50
    clear A50
    by_cases c6 : t193 = true
    · subst c6
      have H1 : (some (decide (a1_2 ≤ 100))) = some r := by rw [if_pos rfl] at H; exact H
      clear H
      have H := H1
      clear H1
      obtain rfl := Option.some.inj H
      go_enter Tryd.func30, Tryd.ntmps30
      go_wp2_with (first | ((with_reducible refine gate_dst (N := 3) rfl ?_); refine box_event ?hg (N := 3) ?hd (cs := #[.slice A1_0 l1_0.length c1_0, .int .i64 a1_1, .int .i64 a1_2]) (t := 36) ?hr ?_; (case hd => rfl); (case hg => rfl); (case hr => first | (go_simp; done) | (go_simp; rfl)); intro gb191 hg w7 hbox hb; have n0_ := Aside0.mk (below_step (by repeat (first | (with_reducible first | exact HB.out | apply below_alloc | apply pw_below_drewN | apply below_drew1) | exact HB.out)) hb); have n1_ := Aside0.mk (hbox); have n2_ := Aside0.mk ((by rw [hg]; exact (below_size (by repeat (first | (with_reducible first | exact HB.out | apply below_alloc | apply pw_below_drewN | apply below_drew1) | exact HB.out))) : w.heap.size ≤ gb191)); have n3_ := Aside0.mk ((by rw [hg]; exact (below_size (by repeat (first | (with_reducible first | exact HB.out | apply below_alloc | apply pw_below_drewN | apply below_drew1) | exact HB.out))) : w.heap.size ≤ gb191)); clear HB; have HB := n0_; have BK191 := n1_; have GW191 := n2_; have GE191 := n3_; clear n0_ n1_ n2_ n3_; clear hb hbox hg; have hcz8_0 : w7.cell? ⟨gb191, 0, none⟩ = some (.slice A1_0 l1_0.length c1_0) := (blk_cell BK191.out 0).trans rfl; have hcz8_1 : w7.cell? ⟨gb191, 1, none⟩ = some (.int .i64 a1_1) := (blk_cell BK191.out 1).trans rfl; have hcz8_2 : w7.cell? ⟨gb191, 2, none⟩ = some (.int .i64 a1_2) := (blk_cell BK191.out 2).trans rfl; have hfz8_0 := blk_frozen BK191.out 0; have hfz8_1 := blk_frozen BK191.out 1; have hfz8_2 := blk_frozen BK191.out 2) | ((with_reducible refine gate_callee (f := 32) rfl ?_); refine goesL_ (some 8) rfl rfl Tryd.func32 (by kernel_rfl) rfl #[.int .i64 a0, .slice A1_0 l1_0.length c1_0] rfl (by (try simp only [List.map_toArray, List.map_cons, List.map_nil]); first | done | rfl | (simp only [List.length_drop, List.length_take]; rfl)) ?_; (with_reducible refine (bit_validRow.calls a0 _ _ l1_0 true _ ?side1 ?side2 A3.out).mono ?_); (case side1 => repeat (first | exact (Kd.C_below HR1_0.out HB.out) | (with_reducible refine Kd.C_alloc ?_ _) | (with_reducible refine Kd.C_drewN ?_ _) | (with_reducible refine Kd.C_drew ?_))); (case side2 => exact HC1_0.out); rintro e w9 ⟨rfl, hb⟩; refine ⟨_, rfl, ?_⟩; have n0_ := Aside0.mk (blk_below (g := gb191) (o := .cells #[.slice A1_0 l1_0.length c1_0, .int .i64 a1_1, .int .i64 a1_2] 36 (0, 0)) (by (with_reducible repeat (first | refine blk_drewN ?_ _ | refine blk_drew ?_ | refine blk_alloc ?_ _)); exact BK191.out) hb); have n1_ := Aside0.mk (below_step (by repeat (first | (with_reducible first | exact HB.out | apply below_alloc | apply pw_below_drewN | apply below_drew1 | refine below_set ?_ GE191.out) | exact HB.out)) hb); clear BK191; clear HB; have BK191 := n0_; have HB := n1_; clear n0_ n1_; (try clear hb); (try clear hb2); (try clear hk); (try clear hi); have hcz10_0 : w9.cell? ⟨gb191, 0, none⟩ = some (.slice A1_0 l1_0.length c1_0) := (blk_cell BK191.out 0).trans rfl; have hcz10_1 : w9.cell? ⟨gb191, 1, none⟩ = some (.int .i64 a1_1) := (blk_cell BK191.out 1).trans rfl; have hcz10_2 : w9.cell? ⟨gb191, 2, none⟩ = some (.int .i64 a1_2) := (blk_cell BK191.out 2).trans rfl; have hfz10_0 := blk_frozen BK191.out 0; have hfz10_1 := blk_frozen BK191.out 1; have hfz10_2 := blk_frozen BK191.out 2) | (go_at_call 40; (with_reducible refine (bit_within.calls a1_1 (-100) a1_2 true _ A5.out).mono ?_); rintro e w' ⟨rfl, ⟨nd, rfl⟩⟩))
      go_ret
      exact ⟨by first | rfl | (simp [errW_none, errW_some] <;> rfl) | (simp [*, errW_none, errW_some] <;> rfl), by repeat (first | (with_reducible first | exact HB.out | apply below_alloc | apply pw_below_drewN | apply below_drew1 | refine below_set ?_ GE191.out) | exact HB.out)⟩
    · replace c6 := Bool.eq_false_iff.mpr c6
      subst c6
      have H1 : (some false) = some r := by rw [if_neg (show ¬ (false = true) by decide)] at H; exact H
      clear H
      have H := H1
      clear H1
      obtain rfl := Option.some.inj H
      go_enter Tryd.func30, Tryd.ntmps30
      go_wp2_with (first | ((with_reducible refine gate_dst (N := 3) rfl ?_); refine box_event ?hg (N := 3) ?hd (cs := #[.slice A1_0 l1_0.length c1_0, .int .i64 a1_1, .int .i64 a1_2]) (t := 36) ?hr ?_; (case hd => rfl); (case hg => rfl); (case hr => first | (go_simp; done) | (go_simp; rfl)); intro gb191 hg w11 hbox hb; have n0_ := Aside0.mk (below_step (by repeat (first | (with_reducible first | exact HB.out | apply below_alloc | apply pw_below_drewN | apply below_drew1) | exact HB.out)) hb); have n1_ := Aside0.mk (hbox); have n2_ := Aside0.mk ((by rw [hg]; exact (below_size (by repeat (first | (with_reducible first | exact HB.out | apply below_alloc | apply pw_below_drewN | apply below_drew1) | exact HB.out))) : w.heap.size ≤ gb191)); have n3_ := Aside0.mk ((by rw [hg]; exact (below_size (by repeat (first | (with_reducible first | exact HB.out | apply below_alloc | apply pw_below_drewN | apply below_drew1) | exact HB.out))) : w.heap.size ≤ gb191)); clear HB; have HB := n0_; have BK191 := n1_; have GW191 := n2_; have GE191 := n3_; clear n0_ n1_ n2_ n3_; clear hb hbox hg; have hcz12_0 : w11.cell? ⟨gb191, 0, none⟩ = some (.slice A1_0 l1_0.length c1_0) := (blk_cell BK191.out 0).trans rfl; have hcz12_1 : w11.cell? ⟨gb191, 1, none⟩ = some (.int .i64 a1_1) := (blk_cell BK191.out 1).trans rfl; have hcz12_2 : w11.cell? ⟨gb191, 2, none⟩ = some (.int .i64 a1_2) := (blk_cell BK191.out 2).trans rfl; have hfz12_0 := blk_frozen BK191.out 0; have hfz12_1 := blk_frozen BK191.out 1; have hfz12_2 := blk_frozen BK191.out 2) | ((with_reducible refine gate_callee (f := 32) rfl ?_); refine goesL_ (some 8) rfl rfl Tryd.func32 (by kernel_rfl) rfl #[.int .i64 a0, .slice A1_0 l1_0.length c1_0] rfl (by (try simp only [List.map_toArray, List.map_cons, List.map_nil]); first | done | rfl | (simp only [List.length_drop, List.length_take]; rfl)) ?_; (with_reducible refine (bit_validRow.calls a0 _ _ l1_0 true _ ?side1 ?side2 A3.out).mono ?_); (case side1 => repeat (first | exact (Kd.C_below HR1_0.out HB.out) | (with_reducible refine Kd.C_alloc ?_ _) | (with_reducible refine Kd.C_drewN ?_ _) | (with_reducible refine Kd.C_drew ?_))); (case side2 => exact HC1_0.out); rintro e w13 ⟨rfl, hb⟩; refine ⟨_, rfl, ?_⟩; have n0_ := Aside0.mk (blk_below (g := gb191) (o := .cells #[.slice A1_0 l1_0.length c1_0, .int .i64 a1_1, .int .i64 a1_2] 36 (0, 0)) (by (with_reducible repeat (first | refine blk_drewN ?_ _ | refine blk_drew ?_ | refine blk_alloc ?_ _)); exact BK191.out) hb); have n1_ := Aside0.mk (below_step (by repeat (first | (with_reducible first | exact HB.out | apply below_alloc | apply pw_below_drewN | apply below_drew1 | refine below_set ?_ GE191.out) | exact HB.out)) hb); clear BK191; clear HB; have BK191 := n0_; have HB := n1_; clear n0_ n1_; (try clear hb); (try clear hb2); (try clear hk); (try clear hi); have hcz14_0 : w13.cell? ⟨gb191, 0, none⟩ = some (.slice A1_0 l1_0.length c1_0) := (blk_cell BK191.out 0).trans rfl; have hcz14_1 : w13.cell? ⟨gb191, 1, none⟩ = some (.int .i64 a1_1) := (blk_cell BK191.out 1).trans rfl; have hcz14_2 : w13.cell? ⟨gb191, 2, none⟩ = some (.int .i64 a1_2) := (blk_cell BK191.out 2).trans rfl; have hfz14_0 := blk_frozen BK191.out 0; have hfz14_1 := blk_frozen BK191.out 1; have hfz14_2 := blk_frozen BK191.out 2) | (go_at_call 40; (with_reducible refine (bit_within.calls a1_1 (-100) a1_2 false _ A5.out).mono ?_); rintro e w' ⟨rfl, ⟨nd, rfl⟩⟩))
      go_ret
      exact ⟨by first | rfl | (simp [errW_none, errW_some] <;> rfl) | (simp [*, errW_none, errW_some] <;> rfl), by repeat (first | (with_reducible first | exact HB.out | apply below_alloc | apply pw_below_drewN | apply below_drew1 | refine below_set ?_ GE191.out) | exact HB.out)⟩
  · replace c4 := Bool.eq_false_iff.mpr c4
    subst c4
    have H1 : (some false) = some r := by rw [if_neg (show ¬ (false = true) by decide)] at H; exact H
    clear H
    have H := H1
    clear H1
    obtain rfl := Option.some.inj H
    go_enter Tryd.func30, Tryd.ntmps30
    go_wp2_with (first | ((with_reducible refine gate_dst (N := 3) rfl ?_); refine box_event ?hg (N := 3) ?hd (cs := #[.slice A1_0 l1_0.length c1_0, .int .i64 a1_1, .int .i64 a1_2]) (t := 36) ?hr ?_; (case hd => rfl); (case hg => rfl); (case hr => first | (go_simp; done) | (go_simp; rfl)); intro gb191 hg w15 hbox hb; have n0_ := Aside0.mk (below_step (by repeat (first | (with_reducible first | exact HB.out | apply below_alloc | apply pw_below_drewN | apply below_drew1) | exact HB.out)) hb); have n1_ := Aside0.mk (hbox); have n2_ := Aside0.mk ((by rw [hg]; exact (below_size (by repeat (first | (with_reducible first | exact HB.out | apply below_alloc | apply pw_below_drewN | apply below_drew1) | exact HB.out))) : w.heap.size ≤ gb191)); have n3_ := Aside0.mk ((by rw [hg]; exact (below_size (by repeat (first | (with_reducible first | exact HB.out | apply below_alloc | apply pw_below_drewN | apply below_drew1) | exact HB.out))) : w.heap.size ≤ gb191)); clear HB; have HB := n0_; have BK191 := n1_; have GW191 := n2_; have GE191 := n3_; clear n0_ n1_ n2_ n3_; clear hb hbox hg; have hcz16_0 : w15.cell? ⟨gb191, 0, none⟩ = some (.slice A1_0 l1_0.length c1_0) := (blk_cell BK191.out 0).trans rfl; have hcz16_1 : w15.cell? ⟨gb191, 1, none⟩ = some (.int .i64 a1_1) := (blk_cell BK191.out 1).trans rfl; have hcz16_2 : w15.cell? ⟨gb191, 2, none⟩ = some (.int .i64 a1_2) := (blk_cell BK191.out 2).trans rfl; have hfz16_0 := blk_frozen BK191.out 0; have hfz16_1 := blk_frozen BK191.out 1; have hfz16_2 := blk_frozen BK191.out 2) | ((with_reducible refine gate_callee (f := 32) rfl ?_); refine goesL_ (some 8) rfl rfl Tryd.func32 (by kernel_rfl) rfl #[.int .i64 a0, .slice A1_0 l1_0.length c1_0] rfl (by (try simp only [List.map_toArray, List.map_cons, List.map_nil]); first | done | rfl | (simp only [List.length_drop, List.length_take]; rfl)) ?_; (with_reducible refine (bit_validRow.calls a0 _ _ l1_0 false _ ?side1 ?side2 A3.out).mono ?_); (case side1 => repeat (first | exact (Kd.C_below HR1_0.out HB.out) | (with_reducible refine Kd.C_alloc ?_ _) | (with_reducible refine Kd.C_drewN ?_ _) | (with_reducible refine Kd.C_drew ?_))); (case side2 => exact HC1_0.out); rintro e w17 ⟨rfl, hb⟩; refine ⟨_, rfl, ?_⟩; have n0_ := Aside0.mk (blk_below (g := gb191) (o := .cells #[.slice A1_0 l1_0.length c1_0, .int .i64 a1_1, .int .i64 a1_2] 36 (0, 0)) (by (with_reducible repeat (first | refine blk_drewN ?_ _ | refine blk_drew ?_ | refine blk_alloc ?_ _)); exact BK191.out) hb); have n1_ := Aside0.mk (below_step (by repeat (first | (with_reducible first | exact HB.out | apply below_alloc | apply pw_below_drewN | apply below_drew1 | refine below_set ?_ GE191.out) | exact HB.out)) hb); clear BK191; clear HB; have BK191 := n0_; have HB := n1_; clear n0_ n1_; (try clear hb); (try clear hb2); (try clear hk); (try clear hi)))
    go_ret
    exact ⟨by first | rfl | (simp [errW_none, errW_some] <;> rfl) | (simp [*, errW_none, errW_some] <;> rfl), by repeat (first | (with_reducible first | exact HB.out | apply below_alloc | apply pw_below_drewN | apply below_drew1 | refine below_set ?_ GE191.out) | exact HB.out)⟩

end Go.Proofs.YthmfgbjimdondaaDoor.P
/- Hand-proved: bit.ValidCells, bit.listed. -/
namespace Go.Proofs.YthmfgbjimdondaaDoor.P
open Go.RowKit Go.Proofs.YthmfgbjimdondaaDoorW.PrintWords Go.Proofs.YthmfgbjimdondaaDoorW.PrintLast Go.Proofs.YthmfgbjimdondaaDoorW.PrintMore
set_option linter.unusedVariables false
set_option linter.unusedSimpArgs false

theorem enters29 : ∀ args w, (callFunc 29 args).run Tryd.prog w = .ok (.enter 29 args) w := enters_of Tryd.func29 (by kernel_rfl) rfl
theorem enters39 : ∀ args w, (callFunc 39 args).run Tryd.prog w = .ok (.enter 39 args) w := enters_of Tryd.func39 (by kernel_rfl) rfl
theorem hmf : ∀ (fn : Fn) (first cap : Array Value) (w : World), (Instr.makeFunc fn first cap).run Tryd.prog w = .ok (.func fn first cap) w := fun _ _ _ _ => rfl
/-- A box that a closure has captured, of one cell. -/
theorem box_later {w W : World} {b i : Nat} {v : Value} (hb : b < w.heap.size) (h : w.cell? ⟨b, i, none⟩ = some v) (hB : Below w.heap.size w W) : W.cell? ⟨b, i, none⟩ = some v := (hB.cell (p := ⟨b, i, none⟩) hb).trans h
theorem box_new (w : World) (v : Value) (t : TypeId) : (w.alloc (.cells #[v] t)).cell? ⟨w.heap.size, 0, none⟩ = some v := by rw [World.cell?_alloc_at _ _ _ _ rfl]; rfl
theorem below_box (w : World) (o : Obj) : Below w.heap.size w (w.alloc o) := (Below.refl _ _).alloc (Nat.le_refl _) o

theorem validCell_any (n : Int) (A : Option Addr) (c : Nat) (r : List Int) (lo hi : Int) (w : World) (hr : Kd.C (Kd.int .i64) w A r.length r) (hc : r.length ≤ c) :
    Calls Tryd.prog 30 #[.int .i64 n, .agg #[.slice A r.length c, .int .i64 lo, .int .i64 hi]] w fun e w' => e = .returned (.bool (cellB n r lo hi)) ∧ Below w.heap.size w w' :=
  bit_validCell.calls n A c r lo hi _ w hr hc (by
    unfold bit_validCell.f bit_validRow.f bit_within.f cellB inB
    cases rowB n r
    · rfl
    · by_cases h : (-100) ≤ lo
      · by_cases h2 : lo ≤ hi <;> simp [h, h2]
      · simp [h])

/-- Cells of rows of n numbers. -/
def cellsB (n : Int) (c : List S36) : Bool := c.all fun x => cellB n x.f0 x.f1 x.f2

set_option maxHeartbeats 1000000 in
theorem validCells1_pred (n top : Int) (b : Nat) (w : World) (hb : b < w.heap.size) (hc : w.cell? ⟨b, 0, none⟩ = some (.int .i64 n)) :
    PredC 29 #[.pointer (some ⟨b, 0, none⟩)] k36 (fun cs => .agg cs.toArray) (fun x => !cellB n x.f0 x.f1 x.f2) (fun _ => True) w := by
  intro x cs W hx hW hK
  obtain ⟨A0, c0, rfl, hc0, hr⟩ := k36_open hK
  have hn := box_later hb hc hW
  have hu := Tryd.underlying36
  have h := fun W' (hW' : Below W.heap.size W W') => validCell_any n A0 c0 x.f0 x.f1 x.f2 W' (Kd.C_below hr hW') hc0
  have H := Aside0.mk h
  clear hc hr hK h
  dsimp only
  generalize cellB n x.f0 x.f1 x.f2 = y at *
  generalize x.f0.length = l at *
  simp only [List.append_toArray, List.cons_append, List.nil_append]
  have hbW : b < W.heap.size := Nat.lt_of_lt_of_le hb hW.size
  clear hb hW hc0
  go_enter Tryd.func29, Tryd.ntmps29
  go_wp2_with (go_at_call 30; refine (H.out _ (below_box W _)).mono ?_; rintro e w' ⟨rfl, hb2⟩)
  go_ret
  exact ⟨rfl, (below_box W _).trans (hb2.mono (by simp))⟩

/-- Cells that can be written. -/
def writB (c : List S36) : Bool := c.all fun x => inB x.f0.length 1 8 && cellB ((c.getD 0 z36).f0.length) x.f0 x.f1 x.f2
set_option maxHeartbeats 1000000 in
theorem listed1_pred (c : List S36) (A : Option Addr) (cap : Nat) (b : Nat) (w : World) (hb : b < w.heap.size) (hbc : w.cell? ⟨b, 0, none⟩ = some (.slice A c.length cap)) (hr : Kd.C k36 w A c.length c) :
    PredC 39 #[.pointer (some ⟨b, 0, none⟩)] k36 (fun cs => .agg cs.toArray) (fun x => !(inB x.f0.length 1 8 && cellB ((c.getD 0 z36).f0.length) x.f0 x.f1 x.f2)) (fun _ => 0 < c.length) w := by
  intro x cs W hx hW hK
  obtain ⟨A0, c0, rfl, hc0, hrx⟩ := k36_open hK
  have hn := box_later hb hbc hW
  have hu := Tryd.underlying36
  have h := fun W' (hW' : Below W.heap.size W W') => validCell_any ((c.getD 0 z36).f0.length : Int) A0 c0 x.f0 x.f1 x.f2 W' (Kd.C_below hrx hW') hc0
  have hwi := fun W' => bit_within_any x.f0.length 1 8 W'
  obtain ⟨ad, A1, c1, rfl, g0, g1, g2, hc1, hr1⟩ := at_T36 hr 0 (by omega) (by omega)
  have hrd : rd_T36 c 0 = c.getD 0 z36 := rfl
  rw [hrd] at g0 g1 g2 hc1 hr1
  have hadd : ad.add (Int.toNat 0 * 3) = ad := rfl
  rw [hadd] at g0
  have hlt := World.block_lt_of_cell? w _ g0
  replace g0 := (hW.cell hlt).trans g0
  have hclen : c.length ≤ 9223372036854775807 := hr.2.1
  have H := Aside0.mk h
  have HWI := Aside0.mk hwi
  have hbW : b < W.heap.size := Nat.lt_of_lt_of_le hb hW.size
  have hltW : ad.block < W.heap.size := Nat.lt_of_lt_of_le hlt hW.size
  clear hbc hr hK h hrx hwi hr1 g1 g2 hrd hb hlt hW
  dsimp only
  generalize (c.getD 0 z36).f0.length = m at *
  generalize cellB m x.f0 x.f1 x.f2 = y at *
  generalize x.f0.length = l at *
  generalize c.length = lc at *
  simp only [List.append_toArray, List.cons_append, List.nil_append]
  generalize inB l 1 8 = z at *
  have hq0 : (W.alloc (.cells #[.slice A0 l c0, .int .i64 x.f1, .int .i64 x.f2] 36)).cell? ⟨W.heap.size, 0, none⟩ = some (.slice A0 l c0) := by rw [World.cell?_alloc_at _ _ _ _ rfl]; rfl
  have hq1 : (W.alloc (.cells #[.slice A0 l c0, .int .i64 x.f1, .int .i64 x.f2] 36)).cell? ⟨W.heap.size, 1, none⟩ = some (.int .i64 x.f1) := by rw [World.cell?_alloc_at _ _ _ _ rfl]; rfl
  have hq2 : (W.alloc (.cells #[.slice A0 l c0, .int .i64 x.f1, .int .i64 x.f2] 36)).cell? ⟨W.heap.size, 2, none⟩ = some (.int .i64 x.f2) := by rw [World.cell?_alloc_at _ _ _ _ rfl]; rfl
  go_enter Tryd.func39, Tryd.ntmps39
  go_upto_region 1 with (fail)
  have hbx := below_box W (.cells #[.slice A0 l c0, .int .i64 x.f1, .int .i64 x.f2] 36)
  have hg0 := (hbx.cell hltW).trans g0
  have hn0 := (hbx.cell (p := ⟨b, 0, none⟩) hbW).trans hn
  clear g0 hn
  generalize W.alloc (.cells #[.slice A0 l c0, .int .i64 x.f1, .int .i64 x.f2] 36) = W1 at *
  obtain ⟨ab, ao, ae⟩ := ad
  have hl1 := World.block_lt_of_cell? _ _ hg0
  have hl2 := World.block_lt_of_cell? _ _ hn0
  have hl3 := World.block_lt_of_cell? _ _ hq0
  have HBX := Aside0.mk hbx
  clear hbx hltW hbW
  cases z with
  | false =>
    go_quiet ((go_at_call 40; exact Calls.quiet_of ((HWI.out _).mono fun e w' ⟨h, ⟨hd⟩⟩ => ⟨h, hd⟩)))
    go_wp2
    go_ret
    exact ⟨rfl, (by repeat (first | (with_reducible first | exact HBX.out | apply below_alloc | apply pw_below_drewN | apply below_drew1) | exact HBX.out))⟩
  | true =>
    go_region_held3 (fun w' => w'.cell? ⟨b, 0, none⟩ = some (.slice (some ⟨ab, ao, ae⟩) lc cap) ∧ w'.cell? ⟨ab, ao, ae⟩ = some (.slice A1 m c1) ∧ w'.cell? ⟨W.heap.size, 0, none⟩ = some (.slice A0 l c0) ∧ w'.cell? ⟨W.heap.size, 1, none⟩ = some (.int .i64 x.f1) ∧ w'.cell? ⟨W.heap.size, 2, none⟩ = some (.int .i64 x.f2))
      (first
        | go_keep
        | exact ⟨(hb2.cell (p := ⟨b, 0, none⟩) hl2).trans hn0, (hb2.cell hl1).trans hg0, (hb2.cell (p := ⟨W.heap.size, 0, none⟩) hl3).trans hq0, (hb2.cell (p := ⟨W.heap.size, 1, none⟩) hl3).trans hq1, (hb2.cell (p := ⟨W.heap.size, 2, none⟩) hl3).trans hq2⟩)
      ((first
        | (go_simp; go_at_call 40; refine (HWI.out _).mono ?_; rintro e w1 ⟨rfl, nd, rfl⟩)
        | (go_simp; go_at_call 30; refine (H.out _ (by repeat (first | (with_reducible first | exact HBX.out | apply below_alloc | apply pw_below_drewN | apply below_drew1) | exact HBX.out))).mono ?_; rintro e w2 ⟨rfl, hb2⟩)))
    have HBE := Aside0.mk (below_step (by repeat (first | (with_reducible first | exact HBX.out | apply below_alloc | apply pw_below_drewN | apply below_drew1) | exact HBX.out)) hb2)
    clear hb2
    go_wp2
    go_ret
    exact ⟨rfl, HBE.out⟩

def fieldB (n top : Int) : Bool := inB n 1 8 && inB top 0 3
theorem validField_any (n top : Int) (w : World) : Calls Tryd.prog 27 #[.agg #[.int .i64 n, .int .i64 top]] w fun e w' => e = .returned (.bool (fieldB n top)) ∧ Below w.heap.size w w' :=
  bit_ValidField.calls n top _ w (by
    unfold bit_ValidField.f bit_within.f fieldB inB
    by_cases h : 1 ≤ n
    · by_cases h2 : n ≤ 8
      · by_cases h3 : 0 ≤ top <;> simp [h, h2, h3]
      · simp [h, h2]
    · simp [h])
def bit_ValidCells.f (a0_0 a0_1 : Int) (l1 : List S36) : Option Bool := some (fieldB a0_0 a0_1 && decide (l1.length ≤ 30) && cellsB a0_0 l1)
def bit_listed.f (l0 : List S36) : Option Bool := some (decide (l0.length ≤ 30) && writB l0)
set_option maxHeartbeats 1000000 in
theorem bit_listed.calls (A0 : Option Addr) (c0 : Nat) (l0 : List S36) (r : Bool) (w : World) (hr0 : Kd.C k36 w A0 l0.length l0) (hc0 : l0.length ≤ c0) (h : bit_listed.f l0 = some r) :
    Calls Tryd.prog 19 #[.slice A0 l0.length c0] w fun e w' => e = .returned (.bool r) ∧ Below w.heap.size w w' := by
  obtain rfl := Option.some.inj h
  clear h
  have hb := below_box w (.cells #[.slice A0 l0.length c0] 24)
  have hbx := box_new w (.slice A0 l0.length c0) 24
  have hsz : w.heap.size < (w.alloc (.cells #[.slice A0 l0.length c0] 24)).heap.size := by simp
  have hcf := containsFunc_cell 39 #[.pointer (some ⟨w.heap.size, 0, none⟩)] _ _ A0 c0 l0 _ (Kd.C_below hr0 hb) hc0 enters39 (listed1_pred l0 A0 c0 w.heap.size _ hsz hbx (Kd.C_below hr0 hb)) (fun x hx => by cases l0 with | nil => cases hx | cons => simp)
  have hlen : l0.length ≤ 9223372036854775807 := hr0.2.1
  have HA : Aside0 ((!l0.any fun x => !(inB x.f0.length 1 8 && cellB ((l0.getD 0 z36).f0.length) x.f0 x.f1 x.f2)) = writB l0) := ⟨not_any_not _ l0⟩
  have HB := Aside0.mk hb
  clear hr0 hb hsz
  generalize (l0.any fun x => !(inB x.f0.length 1 8 && cellB ((l0.getD 0 z36).f0.length) x.f0 x.f1 x.f2)) = y at *
  generalize writB l0 = z at *
  generalize l0.length = n at *
  by_cases hn : n ≤ 30
  · have hn30 : (n : Int) ≤ 30 := by omega
    have hd : decide (n ≤ 30) = true := by simp [hn]
    have hd2 : decide ((n : Int) ≤ 30) = true := decide_eq_true hn30
    rw [hd]
    clear hn hd hn30
    go_enter Tryd.func19, Tryd.ntmps19
    go_wp2_with (go_at_call 28; refine hcf.mono ?_; rintro e w' ⟨rfl, hb⟩)
    go_ret
    exact ⟨by rw [← HA.out]; rfl, below_step HB.out hb⟩
  · have hn30 : ¬ (n : Int) ≤ 30 := by omega
    have hd : decide (n ≤ 30) = false := by simp [hn]
    have hd2 : decide ((n : Int) ≤ 30) = false := decide_eq_false hn30
    rw [hd]
    clear hn hd hn30
    go_enter Tryd.func19, Tryd.ntmps19
    go_wp2_with fail
    go_ret
    exact ⟨rfl, HB.out⟩
set_option maxHeartbeats 1000000 in
theorem bit_ValidCells.calls (a0_0 a0_1 : Int) (A1 : Option Addr) (c1 : Nat) (l1 : List S36) (r : Bool) (w : World) (hr1 : Kd.C k36 w A1 l1.length l1) (hc1 : l1.length ≤ c1) (h : bit_ValidCells.f a0_0 a0_1 l1 = some r) :
    Calls Tryd.prog 11 #[.agg #[.int .i64 a0_0, .int .i64 a0_1], .slice A1 l1.length c1] w fun e w' => e = .returned (.bool r) ∧ Below w.heap.size w w' := by
  obtain rfl := Option.some.inj h
  clear h
  have hb := below_box w (.cells #[.int .i64 a0_0, .int .i64 a0_1] 23)
  have hbx : (w.alloc (.cells #[.int .i64 a0_0, .int .i64 a0_1] 23)).cell? ⟨w.heap.size, 0, none⟩ = some (.int .i64 a0_0) := by rw [World.cell?_alloc_at _ _ _ _ rfl]; rfl
  have hbx2 : (w.alloc (.cells #[.int .i64 a0_0, .int .i64 a0_1] 23)).cell? ⟨w.heap.size, 1, none⟩ = some (.int .i64 a0_1) := by rw [World.cell?_alloc_at _ _ _ _ rfl]; rfl
  have hsz : w.heap.size < (w.alloc (.cells #[.int .i64 a0_0, .int .i64 a0_1] 23)).heap.size := by simp
  have hu := Tryd.underlying23
  have hvf := validField_any a0_0 a0_1
  have hlen : l1.length ≤ 9223372036854775807 := hr1.2.1
  have HA : Aside0 ((!l1.any fun x => !cellB a0_0 x.f0 x.f1 x.f2) = cellsB a0_0 l1) := ⟨not_any_not (fun x => cellB a0_0 x.f0 x.f1 x.f2) l1⟩
  have hcf : ∀ W', Below (w.alloc (.cells #[.int .i64 a0_0, .int .i64 a0_1] 23)).heap.size (w.alloc (.cells #[.int .i64 a0_0, .int .i64 a0_1] 23)) W' → Calls Tryd.prog 28 #[.slice A1 l1.length c1, .func (.func 29) #[] #[.pointer (some ⟨w.heap.size, 0, none⟩)]] W' fun e w' => e = .returned (.bool (l1.any fun x => !cellB a0_0 x.f0 x.f1 x.f2)) ∧ Below W'.heap.size W' w' := fun W' hW' =>
    containsFunc_cell 29 #[.pointer (some ⟨w.heap.size, 0, none⟩)] _ _ A1 c1 l1 _ (Kd.C_below (Kd.C_below hr1 hb) hW') hc1 enters29 (validCells1_pred a0_0 a0_1 w.heap.size _ (Nat.lt_of_lt_of_le hsz hW'.size) (box_later hsz hbx hW')) (fun _ _ => trivial)
  have HCF := Aside0.mk hcf
  have HVF := Aside0.mk hvf
  have HB := Aside0.mk hb
  clear hr1 hb hsz hcf hvf
  generalize (l1.any fun x => !cellB a0_0 x.f0 x.f1 x.f2) = y at *
  generalize cellsB a0_0 l1 = z at *
  generalize l1.length = n at *
  generalize fieldB a0_0 a0_1 = v at *
  cases v with
  | false =>
    go_enter Tryd.func11, Tryd.ntmps11
    go_wp2_with (first | (go_at_call 27; refine (HVF.out _).mono ?_; rintro e w1 ⟨rfl, hb1⟩))
    go_ret
    exact ⟨rfl, below_step HB.out hb1⟩
  | true =>
    by_cases hn : n ≤ 30
    · have hn30 : (n : Int) ≤ 30 := by omega
      have hd : decide (n ≤ 30) = true := by simp [hn]
      have hd2 : decide ((n : Int) ≤ 30) = true := decide_eq_true hn30
      rw [hd]
      clear hn hd hn30
      go_enter Tryd.func11, Tryd.ntmps11
      go_wp2_with (first | (go_at_call 27; refine (HVF.out _).mono ?_; rintro e w1 ⟨rfl, hb1⟩) | (go_at_call 28; refine (HCF.out _ hb1).mono ?_; rintro e w' ⟨rfl, hb⟩))
      go_ret
      exact ⟨by rw [← HA.out]; rfl, below_step (below_step HB.out hb1) hb⟩
    · have hn30 : ¬ (n : Int) ≤ 30 := by omega
      have hd : decide (n ≤ 30) = false := by simp [hn]
      have hd2 : decide ((n : Int) ≤ 30) = false := decide_eq_false hn30
      rw [hd]
      clear hn hd hn30
      go_enter Tryd.func11, Tryd.ntmps11
      go_wp2_with (first | (go_at_call 27; refine (HVF.out _).mono ?_; rintro e w1 ⟨rfl, hb1⟩))
      go_ret
      exact ⟨rfl, below_step HB.out hb1⟩
end Go.Proofs.YthmfgbjimdondaaDoor.P
/- Plain laws about lines of cells, as bytes: written, split, read again. -/
namespace Go.Proofs.YthmfgbjimdondaaDoor.P
set_option linter.unusedVariables false
set_option linter.unusedSimpArgs false

theorem itoa_fin : ∀ i : Fin 201, Lib.atoiAll (Lib.itoa ((i.val : Int) - 100)) = .ok ((i.val : Int) - 100) ∧ (Lib.itoa ((i.val : Int) - 100)).all (fun b => b != 32 && b != 10) = true ∧ (Lib.itoa ((i.val : Int) - 100)).length ≤ 4 := by
  decide +kernel
theorem itoa_round {n : Int} (h0 : -100 ≤ n) (h1 : n ≤ 100) : Lib.atoiAll (Lib.itoa n) = .ok n ∧ (∀ b ∈ Lib.itoa n, b ≠ 32 ∧ b ≠ 10) ∧ (Lib.itoa n).length ≤ 4 := by
  have h := itoa_fin ⟨(n + 100).toNat, by omega⟩
  have e : (((n + 100).toNat : Nat) : Int) - 100 = n := by omega
  simp only [e] at h
  refine ⟨h.1, fun b hb => ?_, h.2.2⟩
  have := List.all_eq_true.1 h.2.1 b hb
  simpa using this

/-- The sign of a number; a cell's line. -/
def signB (n : Int) : UInt8 := if n = 1 then 43 else if n = 0 then 46 else 45
def sgnB (b : UInt8) : Int := Lib.indexByte [45, 46, 43] b - 1
def sgnR (b : UInt8) : Int := if b = 43 then 1 else if b = 46 then 0 else if b = 45 then -1 else 2
def lineB (row : List Int) (lo hi : Int) : List UInt8 := Lib.itoa lo ++ 32 :: (Lib.itoa hi ++ 32 :: row.map signB)
theorem signB_cases {n : Int} (h : inB n (-1) 1 = true) : (n = 1 ∧ signB n = 43) ∨ (n = 0 ∧ signB n = 46) ∨ (n = -1 ∧ signB n = 45) := by
  have := inB_iff.1 h
  by_cases h1 : n = 1
  · exact .inl ⟨h1, by simp [signB, h1]⟩
  · by_cases h0 : n = 0
    · exact .inr (.inl ⟨h0, by simp [signB, h0]⟩)
    · have : n = -1 := by omega
      exact .inr (.inr ⟨this, by simp [signB, this]⟩)
theorem sgnB_signB {n : Int} (h : inB n (-1) 1 = true) : sgnB (signB n) = n := by
  rcases signB_cases h with ⟨h, e⟩ | ⟨h, e⟩ | ⟨h, e⟩ <;> rw [e, h] <;> decide
theorem sgnR_signB {n : Int} (h : inB n (-1) 1 = true) : sgnR (signB n) = n := by
  rcases signB_cases h with ⟨h, e⟩ | ⟨h, e⟩ | ⟨h, e⟩ <;> rw [e, h] <;> decide
theorem signB_not {n : Int} : signB n ≠ 32 ∧ signB n ≠ 10 ∧ (signB n).toNat < 128 := by
  unfold signB; split
  · decide
  · split <;> decide

theorem idx_app (c : UInt8) (r : List UInt8) : ∀ a : List UInt8, (∀ b ∈ a, b ≠ c) → Lib.indexByte (a ++ c :: r) c = (a.length : Int)
  | [], _ => by simp [Lib.indexByte]
  | b :: a, h => by
    have ih := idx_app c r a (fun x hx => h x (List.mem_cons_of_mem _ hx))
    have hb : (b == c) = false := by simpa using h b (List.mem_cons_self ..)
    simp only [List.cons_append, Lib.indexByte, hb, ih, List.length_cons]
    rw [if_neg (by simp), if_neg (by simp)]
    omega
theorem idx_none (c : UInt8) : ∀ a : List UInt8, (∀ b ∈ a, b ≠ c) → Lib.indexByte a c = -1
  | [], _ => rfl
  | b :: a, h => by
    have ih := idx_none c a (fun x hx => h x (List.mem_cons_of_mem _ hx))
    have hb : (b == c) = false := by simpa using h b (List.mem_cons_self ..)
    simp [Lib.indexByte, hb, ih]

theorem split3 (a b r : List UInt8) (ha : ∀ x ∈ a, x ≠ 32) (hb : ∀ x ∈ b, x ≠ 32) (hr : ∀ x ∈ r, x ≠ 32) :
    Lib.count (a ++ 32 :: (b ++ 32 :: r)) [32] = 2 ∧ Lib.splitK [32] 0 2 (a ++ 32 :: (b ++ 32 :: r)) = [a, b, r] := by
  have i1 : Lib.index (a ++ 32 :: (b ++ 32 :: r)) [32] = (a.length : Int) := by rw [Lib.index_one]; exact idx_app 32 _ a ha
  have i2 : Lib.index (b ++ 32 :: r) [32] = (b.length : Int) := by rw [Lib.index_one]; exact idx_app 32 _ b hb
  have i3 : Lib.index r [32] = -1 := by rw [Lib.index_one]; exact idx_none 32 r hr
  have d1 : (a ++ 32 :: (b ++ 32 :: r)).drop (a.length + [(32 : UInt8)].length) = b ++ 32 :: r := by simp [List.drop_append]
  have d2 : (b ++ 32 :: r).drop (b.length + [(32 : UInt8)].length) = r := by simp [List.drop_append]
  constructor
  · rw [Lib.count_hit (by simp) i1, d1, Lib.count_hit (by simp) i2, d2, Lib.count_miss i3]
  · have m1 : ¬ (Lib.index (a ++ 32 :: (b ++ 32 :: r)) [32] == -1) = true := fun e => by have := beq_iff_eq.1 e; omega
    have m2 : ¬ (Lib.index (b ++ 32 :: r) [32] == -1) = true := fun e => by have := beq_iff_eq.1 e; omega
    unfold Lib.splitK
    rw [if_neg m1, i1, Int.toNat_natCast, d1]
    unfold Lib.splitK
    rw [if_neg m2, i2, Int.toNat_natCast, d2]
    simp [Lib.splitK]

/-- A cell that can be written. -/
def okCell (row : List Int) (lo hi : Int) : Prop := -100 ≤ lo ∧ lo ≤ hi ∧ hi ≤ 100 ∧ ∀ n ∈ row, inB n (-1) 1 = true
theorem okCell_of {n : Int} {row : List Int} {lo hi : Int} (h : cellB n row lo hi = true) : okCell row lo hi := by
  simp only [cellB, rowB, Bool.and_eq_true, decide_eq_true_eq, List.all_eq_true, inB_iff] at h
  exact ⟨h.1.2.1, h.1.2.2, h.2, fun n hn => inB_iff.2 (h.1.1.2 n hn)⟩
theorem line_split {row : List Int} {lo hi : Int} (h : okCell row lo hi) :
    Lib.count (lineB row lo hi) [32] = 2 ∧ Lib.splitK [32] 0 2 (lineB row lo hi) = [Lib.itoa lo, Lib.itoa hi, row.map signB] := by
  obtain ⟨h0, h1, h2, hr⟩ := h
  refine split3 _ _ _ (fun x hx => ((itoa_round h0 (by omega)).2.1 x hx).1) (fun x hx => ((itoa_round (by omega) h2).2.1 x hx).1) (fun x hx => ?_)
  obtain ⟨n, _, rfl⟩ := List.mem_map.1 hx
  exact signB_not.1
theorem line_nonl {row : List Int} {lo hi : Int} (h : okCell row lo hi) : ∀ b ∈ lineB row lo hi, b ≠ 10 := by
  obtain ⟨h0, h1, h2, hr⟩ := h
  intro b hb
  simp only [lineB, List.mem_append, List.mem_cons, List.mem_map] at hb
  rcases hb with hb | rfl | hb | rfl | ⟨n, _, rfl⟩
  · exact ((itoa_round h0 (by omega)).2.1 b hb).2
  · decide
  · exact ((itoa_round (by omega) h2).2.1 b hb).2
  · decide
  · exact signB_not.2.1
theorem line_len {row : List Int} {lo hi : Int} (h : okCell row lo hi) : (lineB row lo hi).length ≤ row.length + 10 := by
  obtain ⟨h0, h1, h2, hr⟩ := h
  have a := (itoa_round h0 (by omega)).2.2
  have b := (itoa_round (by omega) h2).2.2
  simp [lineB]; omega
theorem map_sgn {row : List Int} (f : UInt8 → Int) (hf : ∀ n, inB n (-1) 1 = true → f (signB n) = n) (hr : ∀ n ∈ row, inB n (-1) 1 = true) : (row.map signB).map f = row := by
  rw [List.map_map]
  induction row with
  | nil => rfl
  | cons x r ih => simp only [List.map_cons, Function.comp, hf x (hr x (List.mem_cons_self ..))]; rw [ih (fun n hn => hr n (List.mem_cons_of_mem _ hn))]
theorem trim_nl (l : List UInt8) : Lib.trimSuffix (l ++ [10]) [10] = l := by
  unfold Lib.trimSuffix Lib.hasSuffix
  simp

/-! ### Lines -/
def linesB : List UInt8 → List (List UInt8)
  | [] => []
  | b :: r => if b = 10 then [b] :: linesB r else match linesB r with
    | [] => [[b]]
    | x :: xs => (b :: x) :: xs
theorem linesB_hit (c : List UInt8) : ∀ a : List UInt8, (∀ b ∈ a, b ≠ 10) → linesB (a ++ 10 :: c) = (a ++ [10]) :: linesB c
  | [], _ => by simp [linesB]
  | b :: a, h => by
    have ih := linesB_hit c a (fun x hx => h x (List.mem_cons_of_mem _ hx))
    have hb := h b (List.mem_cons_self ..)
    simp only [List.cons_append, linesB, if_neg hb, ih]
theorem linesB_none : ∀ a : List UInt8, (∀ b ∈ a, b ≠ 10) → a ≠ [] → linesB a = [a]
  | [], _, h => absurd rfl h
  | [b], h, _ => by
    have hb := h b (List.mem_cons_self ..)
    simp [linesB, hb]
  | b :: b2 :: a, h, _ => by
    have ih := linesB_none (b2 :: a) (fun x hx => h x (List.mem_cons_of_mem _ hx)) (by simp)
    have hb := h b (List.mem_cons_self ..)
    simp only [linesB, if_neg hb] at ih ⊢
    rw [ih]
theorem linesB_flat (ls : List (List UInt8)) (h : ∀ l ∈ ls, ∀ b ∈ l, b ≠ 10) : linesB (ls.flatMap fun l => l ++ [10]) = ls.map fun l => l ++ [10] := by
  induction ls with
  | nil => rfl
  | cons l r ih =>
    rw [List.flatMap_cons, List.append_assoc, List.singleton_append, linesB_hit _ l (h l (List.mem_cons_self ..)), ih (fun x hx => h x (List.mem_cons_of_mem _ hx))]
    rfl
/-- A list of bytes is cut at its first 10, or has none. -/
theorem cut_cases : ∀ l : List UInt8, (Lib.indexByte l 10 = -1 ∧ ∀ b ∈ l, b ≠ 10) ∨ ∃ a c, l = a ++ 10 :: c ∧ (∀ b ∈ a, b ≠ 10) ∧ Lib.indexByte l 10 = (a.length : Int)
  | [] => .inl ⟨rfl, fun b hb => by cases hb⟩
  | b :: r => by
    by_cases hb : b = 10
    · subst hb
      exact .inr ⟨[], r, rfl, (fun b hb => by cases hb), by simp [Lib.indexByte]⟩
    · rcases cut_cases r with ⟨h1, h2⟩ | ⟨a, c, rfl, h2, h3⟩
      · left
        have hbb : (b == 10) = false := by simpa using hb
        exact ⟨by simp [Lib.indexByte, hbb, h1], fun x hx => by rcases List.mem_cons.1 hx with rfl | hx; exact hb; exact h2 x hx⟩
      · right
        have hall : ∀ x ∈ b :: a, x ≠ 10 := fun x hx => by rcases List.mem_cons.1 hx with rfl | hx; exact hb; exact h2 x hx
        exact ⟨b :: a, c, rfl, hall, idx_app 10 c (b :: a) hall⟩
end Go.Proofs.YthmfgbjimdondaaDoor.P
/- Plain laws: which lines make which cells; both parsers are read as one relation. -/
namespace Go.Proofs.YthmfgbjimdondaaDoor.P
set_option linter.unusedVariables false
set_option linter.unusedSimpArgs false

def listB (c : List S36) : Bool := decide (c.length ≤ 30) && writB c
def lineC (x : S36) : List UInt8 := lineB x.f0 x.f1 x.f2
/-- Behind the cells c the line t makes the cell x. -/
def Good (c : List S36) (t : List UInt8) (x : S36) : Prop := listB (c ++ [x]) = true ∧ t = lineC x ++ [10]

theorem listB_ok {c : List S36} (h : listB c = true) : c.length ≤ 30 ∧ ∀ x ∈ c, 1 ≤ x.f0.length ∧ x.f0.length ≤ 8 ∧ okCell x.f0 x.f1 x.f2 := by
  simp only [listB, writB, Bool.and_eq_true, decide_eq_true_eq, List.all_eq_true] at h
  refine ⟨h.1, fun x hx => ?_⟩
  have := h.2 x hx
  have h1 := inB_iff.1 this.1
  exact ⟨by omega, by omega, okCell_of this.2⟩
theorem Good.ok {c : List S36} {t : List UInt8} {x : S36} (h : Good c t x) : 1 ≤ x.f0.length ∧ x.f0.length ≤ 8 ∧ okCell x.f0 x.f1 x.f2 := (listB_ok h.1).2 x (by simp)
theorem Good.words {c : List S36} {t : List UInt8} {x : S36} (h : Good c t x) :
    Lib.trimSuffix t [10] = lineC x ∧ Lib.count (lineC x) [32] = 2 ∧ Lib.splitK [32] 0 2 (lineC x) = [Lib.itoa x.f1, Lib.itoa x.f2, x.f0.map signB] := by
  obtain ⟨_, _, ho⟩ := h.ok
  obtain ⟨h1, h2⟩ := line_split ho
  exact ⟨by rw [h.2, trim_nl], h1, h2⟩
theorem okCell.atoi {row : List Int} {lo hi : Int} (h : okCell row lo hi) : Lib.atoiAll (Lib.itoa lo) = .ok lo ∧ Lib.atoiAll (Lib.itoa hi) = .ok hi ∧ (row.map signB).map sgnB = row ∧ (row.map signB).map sgnR = row ∧ ∀ b ∈ row.map signB, b.toNat < 128 := by
  obtain ⟨h0, h1, h2, hr⟩ := h
  refine ⟨(itoa_round h0 (by omega)).1, (itoa_round (by omega) h2).1, map_sgn sgnB (fun n h => sgnB_signB h) hr, map_sgn sgnR (fun n h => sgnR_signB h) hr, fun b hb => ?_⟩
  obtain ⟨n, _, rfl⟩ := List.mem_map.1 hb
  exact signB_not.2.2
theorem Good.unique {c : List S36} {t : List UInt8} {x y : S36} (h : Good c t x) (k : Good c t y) : x = y := by
  have hx := h.words
  have hy := k.words
  have ax := h.ok.2.2.atoi
  have ay := k.ok.2.2.atoi
  have e : lineC x = lineC y := hx.1.symm.trans hy.1
  have e2 := hx.2.2
  rw [e, hy.2.2] at e2
  simp only [List.cons.injEq, and_true] at e2
  obtain ⟨e3, e4, e5⟩ := e2
  have f1 : x.f1 = y.f1 := by have := ax.1; rw [← e3, ay.1] at this; exact (Lib.NumEnd.ok.inj this).symm
  have f2 : x.f2 = y.f2 := by have := ax.2.1; rw [← e4, ay.2.1] at this; exact (Lib.NumEnd.ok.inj this).symm
  have f0 : x.f0 = y.f0 := by rw [← ax.2.2.1, ← e5, ay.2.2.1]
  cases x; cases y; simp_all

/-- What is read of lines, the cells c and i lines having been read. -/
def ParseD : List S36 → Nat → List (List UInt8) → List S36 × Int × Int → Prop
  | c, i, [], r => r = (c, 0, 0)
  | c, i, t :: ts, r => (∃ x, Good c t x ∧ ParseD (c ++ [x]) (i + 1) ts r) ∨ ((∀ x, ¬ Good c t x) ∧ r = ([], (i : Int), 2))
theorem ParseD.unique : ∀ (ts : List (List UInt8)) (c : List S36) (i : Nat) (r r' : List S36 × Int × Int), ParseD c i ts r → ParseD c i ts r' → r = r'
  | [], c, i, r, r', h, h' => by simp only [ParseD] at h h'; rw [h, h']
  | t :: ts, c, i, r, r', h, h' => by
    simp only [ParseD] at h h'
    rcases h with ⟨x, hx, h⟩ | ⟨hn, h⟩ <;> rcases h' with ⟨y, hy, h'⟩ | ⟨hn', h'⟩
    · have := hx.unique hy; subst this
      exact ParseD.unique ts _ _ _ _ h h'
    · exact absurd hx (hn' x)
    · exact absurd hy (hn y)
    · rw [h, h']
theorem ParseD.line : ∀ (ts : List (List UInt8)) (c : List S36) (i : Nat) (r : List S36 × Int × Int), ParseD c i ts r → r.1.length ≤ 30 ∨ r.1 = c
  | [], c, i, r, h => by simp only [ParseD] at h; rw [h]; exact .inr rfl
  | t :: ts, c, i, r, h => by
    simp only [ParseD] at h
    rcases h with ⟨x, hx, h⟩ | ⟨hn, h⟩
    · rcases ParseD.line ts _ _ _ h with h1 | h1
      · exact .inl h1
      · left; rw [h1]; exact (listB_ok hx.1).1
    · left; rw [h]; simp
theorem writB_prefix {c d : List S36} (h : listB (c ++ d) = true) (hc : c ≠ []) : listB c = true := by
  simp only [listB, writB, Bool.and_eq_true, decide_eq_true_eq, List.all_eq_true, List.length_append] at h ⊢
  refine ⟨by omega, fun x hx => ?_⟩
  have h2 := h.2 x (List.mem_append_left _ hx)
  have e : (c ++ d).getD 0 z36 = c.getD 0 z36 := by
    cases c with
    | nil => exact absurd rfl hc
    | cons a r => rfl
  rwa [e] at h2
/-- Cells that can be written are read back. -/
theorem ParseD.back : ∀ (d c : List S36) (i : Nat), listB (c ++ d) = true → ParseD c i (d.map fun x => lineC x ++ [10]) (c ++ d, 0, 0)
  | [], c, i, h => by simp [ParseD]
  | x :: d, c, i, h => by
    have e : c ++ x :: d = (c ++ [x]) ++ d := by simp
    rw [e] at h ⊢
    simp only [List.map_cons, ParseD]
    exact .inl ⟨x, ⟨writB_prefix h (by simp), rfl⟩, ParseD.back d (c ++ [x]) (i + 1) h⟩
def formatC (c : List S36) : List UInt8 := if listB c = true then c.flatMap fun x => lineC x ++ [10] else []
theorem format_lines {c : List S36} (h : listB c = true) : linesB (formatC c) = c.map fun x => lineC x ++ [10] := by
  rw [formatC, if_pos h, show (c.flatMap fun x => lineC x ++ [10]) = (c.map lineC).flatMap (fun l => l ++ [10]) by simp [List.flatMap_map], linesB_flat]
  · simp [List.map_map, Function.comp_def]
  · intro l hl b hb
    obtain ⟨x, hx, rfl⟩ := List.mem_map.1 hl
    exact line_nonl ((listB_ok h).2 x hx).2.2 b hb
theorem format_back {c : List S36} (h : listB c = true) : ParseD [] 0 (linesB (formatC c)) (c, 0, 0) := by
  rw [format_lines h]
  exact ParseD.back c [] 0 (by simpa using h)
theorem valid_listed {n top : Int} {c : List S36} (h : (fieldB n top && decide (c.length ≤ 30) && cellsB n c) = true) : listB c = true := by
  simp only [fieldB, cellsB, listB, writB, Bool.and_eq_true, decide_eq_true_eq, List.all_eq_true, inB_iff] at h ⊢
  obtain ⟨⟨⟨h1, _⟩, h2⟩, h3⟩ := h
  have hl : ∀ x ∈ c, (x.f0.length : Int) = n := fun x hx => by
    have := h3 x hx
    simp only [cellB, rowB, Bool.and_eq_true, decide_eq_true_eq] at this
    exact this.1.1.1
  refine ⟨h2, fun x hx => ⟨by rw [hl x hx]; exact h1, ?_⟩⟩
  have h0 : (c.getD 0 z36) ∈ c := mem_getD c _ 0 (by cases c with | nil => cases hx | cons => simp)
  rw [hl _ h0]
  exact h3 x hx
theorem format_len (c : List S36) : (formatC c).length ≤ 30 * 20 := by
  unfold formatC
  split
  · rename_i h
    obtain ⟨h1, h2⟩ := listB_ok h
    clear h
    have : ∀ d : List S36, (∀ x ∈ d, 1 ≤ x.f0.length ∧ x.f0.length ≤ 8 ∧ okCell x.f0 x.f1 x.f2) → (d.flatMap fun x => lineC x ++ [10]).length ≤ d.length * 20 := by
      intro d
      induction d with
      | nil => intro _; simp
      | cons x d ih =>
        intro hd
        have := ih (fun y hy => hd y (List.mem_cons_of_mem _ hy))
        obtain ⟨_, a, b⟩ := hd x (List.mem_cons_self ..)
        have := line_len b
        have e : (lineC x).length = (lineB x.f0 x.f1 x.f2).length := rfl
        simp only [List.flatMap_cons, List.length_append, List.length_cons, List.length_nil]
        omega
    have := this c h2
    omega
  · simp
end Go.Proofs.YthmfgbjimdondaaDoor.P
