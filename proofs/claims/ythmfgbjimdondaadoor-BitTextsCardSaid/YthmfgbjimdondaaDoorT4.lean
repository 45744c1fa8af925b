/-
  Parse and Format, of the program and of the document.
-/
import Derived.Test.YthmfgbjimdondaaDoorT3
import Derived.Test.YthmfgbjimdondaaDoorT2
import Derived.Lib.AtoiErrMem
import Derived.Deep.AppendLies
import Derived.Sort.CutIn
import Derived.Test.YthmfgbjimdondaaDoorT1
import Derived.Shelf.Strings.BuilderK
/- bit.Parse. -/
namespace Go.Proofs.YthmfgbjimdondaaDoor.P
open Go.RowKit Go.Proofs.YthmfgbjimdondaaDoorW.PrintWords Go.Proofs.YthmfgbjimdondaaDoorW.PrintLast Go.Proofs.YthmfgbjimdondaaDoorW.PrintMore
set_option linter.unusedVariables false
set_option linter.unusedSimpArgs false
attribute [local go_sem] Oper.semAt_some

/-- What of the library's variables the calls ask. -/
structure Lays (w : World) : Prop where
  tab : Tab w
  syn : ∃ tp p, w.cell? ⟨0, 0, none⟩ = some (.iface tp p)
  rng : ∃ tp p, w.cell? ⟨1, 0, none⟩ = some (.iface tp p)
  mx : ∃ m, w.cell? ⟨2, 0, none⟩ = some (.int .i64 m)
/-- What lay in w lies in w' as it lay. -/
def Old (w w' : World) : Prop := w.heap.size ≤ w'.heap.size ∧ ∀ k, k < w.heap.size → w'.heap[k]? = w.heap[k]?
theorem Old.refl (w : World) : Old w w := ⟨Nat.le_refl _, fun _ _ => rfl⟩
theorem Old.below {w w1 w2 : World} {B : Nat} (h : Old w w1) (hb : Below B w1 w2) (hB : w.heap.size ≤ B) : Old w w2 :=
  ⟨Nat.le_trans h.1 hb.size, fun k hk => (hb.block k (Nat.lt_of_lt_of_le hk hB)).trans (h.2 k hk)⟩
theorem Old.of_below {w w' : World} (h : Below w.heap.size w w') : Old w w' := ⟨h.size, fun k hk => h.block k hk⟩
theorem Old.cell {w w' : World} (h : Old w w') {p : Addr} {v : Value} (hc : w.cell? p = some v) : w'.cell? p = some v := by
  have hb := World.block_lt_of_cell? w _ hc
  rw [World.cell?_of_block (h.2 p.block hb)]; exact hc
theorem Lays.old {w w' : World} (h : Lays w) (ho : Old w w') : Lays w' := by
  obtain ⟨ht, ⟨tp, p, h1⟩, ⟨tp2, p2, h2⟩, ⟨m, h3⟩⟩ := h
  refine ⟨?_, ⟨tp, p, ho.cell h1⟩, ⟨tp2, p2, ho.cell h2⟩, ⟨m, ho.cell h3⟩⟩
  unfold Tab Lib.TabIs World.var? at *
  cases hg : Program.globalNamed Tryd.prog "internal/strconv.uint64pow10" with
  | none => rw [hg] at ht; cases ht
  | some g =>
    rw [hg] at ht
    simp only [Option.bind_some] at ht ⊢
    cases hh : w.heap[g]? with
    | none => rw [hh] at ht; cases ht
    | some o => rw [ho.2 g (Array.getElem?_eq_some_iff.1 hh).1, hh]; rw [hh] at ht; exact ht
/-- What strconv.Atoi tells of a text: a number, and whether it is right. -/
def AtoiOf (s : ByteArray) (z : Int) (ev : Value) : Prop :=
  (Lib.atoiAll s.data.toList = .ok z ∧ ev = .nilIface) ∨ ((∀ v, Lib.atoiAll s.data.toList ≠ .ok v) ∧ ∃ N, ev = .iface 92 (.pointer (some ⟨N, 0, none⟩)))
theorem atoi_any (s : ByteArray) (w : World) (hs : s.size ≤ 100000) (hL : Lays w) :
    Calls Tryd.prog 17 #[.string s] w fun e w' => ∃ z ev, e = .returned (.tuple #[.int .i64 z, ev]) ∧ AtoiOf s z ev ∧ Below w.heap.size w w' := by
  obtain ⟨_, ⟨tp, p, h1⟩, ⟨tp2, p2, h2⟩, _⟩ := hL
  cases h : Lib.atoiAll s.data.toList with
  | ok v =>
    refine (Tryd.strconv_Atoi_ok s (by omega) v h w).mono ?_
    rintro e w' ⟨rfl, hw⟩
    refine ⟨v, .nilIface, rfl, .inl ⟨h, rfl⟩, ?_⟩
    rcases hw with rfl | ⟨t, rfl⟩
    · exact Below.refl _ _
    · exact Lib.bytesWorld_below w _ t
  | range =>
    refine (Tryd.strconv_Atoi_range s (by omega) h _ w h2 (.inr ⟨tp2, p2, rfl⟩)).mono ?_
    rintro e w' ⟨N, rfl, _, _, hb⟩
    exact ⟨_, _, rfl, .inr ⟨(fun v hv => by rw [h] at hv; cases hv), N, rfl⟩, hb⟩
  | _ =>
    refine (Tryd.strconv_Atoi_syntax s (by omega) (fun v hv => by rw [h] at hv; cases hv) (fun hv => by rw [h] at hv; cases hv) _ w h1 (.inr ⟨tp, p, rfl⟩)).mono ?_
    rintro e w' ⟨N, rfl, _, _, hb⟩
    exact ⟨0, _, rfl, .inr ⟨(fun v hv => by rw [h] at hv; cases hv), N, rfl⟩, hb⟩

/-- What the lines so far have made. -/
def Reach (cs : List S36) (ts : List (List UInt8)) : Prop := ∀ rest r, ParseD cs ts.length rest r → ParseD [] 0 (ts ++ rest) r
theorem Reach.nil : Reach [] [] := fun rest r h => h
theorem Reach.snoc {cs : List S36} {ts : List (List UInt8)} {t : List UInt8} {x : S36} (h : Reach cs ts) (hg : Good cs t x) : Reach (cs ++ [x]) (ts ++ [t]) := by
  intro rest r hr
  rw [List.append_assoc]
  refine h ([t] ++ rest) r ?_
  rw [List.length_append, List.length_singleton] at hr
  exact .inl ⟨x, hg, hr⟩
theorem Reach.stop {cs : List S36} {ts ls : List (List UInt8)} {t : List UInt8} (h : Reach cs ts) (hg : ∀ x, ¬ Good cs t x) (hp : ts ++ [t] <+: ls) : ParseD [] 0 ls ([], (ts.length : Int), 2) := by
  obtain ⟨rest, rfl⟩ := hp
  rw [List.append_assoc]
  exact h ([t] ++ rest) _ (.inr ⟨hg, rfl⟩)
theorem Reach.done {cs : List S36} {ts : List (List UInt8)} (h : Reach cs ts) : ParseD [] 0 ts (cs, 0, 0) := by
  have := h [] (cs, 0, 0) rfl
  rwa [List.append_nil] at this

/-- What a parser returns. -/
def ParsePost (s : ByteArray) (w : World) (e : Ending) (w' : World) : Prop :=
  ∃ v r, e = .returned (.tuple #[v, .int .i64 r.2.1, .int .i64 r.2.2]) ∧ Kd.R k36 36 w' 0 (fun _ => True) v r.1 ∧ (if 65536 < s.size then r = ([], 0, 3) else ParseD [] 0 (linesB s.data.toList) r) ∧ Below w.heap.size w w'
/-- Between two rounds. -/
def ParseI (w : World) (pre : List ByteArray) (G : Nat → Prop) (W : World) : Prop :=
  (∀ k, k < w.heap.size + 3 → G k) ∧ Old w W ∧ ∃ v cs, Boxed W w.heap.size 24 v ∧ Kd.R k36 36 W 0 (fun k => G k ∧ w.heap.size + 3 ≤ k) v cs ∧ Boxed W (w.heap.size + 1) 3 (.int .i64 pre.length) ∧ Boxed W (w.heap.size + 2) 27 (.int .i64 0) ∧ (cs.length ≤ 30 ∧ cs.length = pre.length) ∧ Reach cs (pre.map (·.data.toList))
def ParseX (s : ByteArray) (w : World) (c : Code) (pre : List ByteArray) (G : Nat → Prop) (W : World) : Prop :=
  (∀ k, k < w.heap.size + 3 → G k) ∧ Old w W ∧ c = .ret ∧ ∃ r : List S36 × Int × Int, Boxed W w.heap.size 24 (.slice none 0 0) ∧ Boxed W (w.heap.size + 1) 3 (.int .i64 r.2.1) ∧ Boxed W (w.heap.size + 2) 27 (.int .i64 r.2.2) ∧ r.1 = [] ∧ ((pre.map (·.data.toList)) <+: linesB s.data.toList → ParseD [] 0 (linesB s.data.toList) r)
theorem ParseI.moves (w : World) (s : List ByteArray) (G : Nat → Prop) (A B : World) (h : ParseI w s G A) (hm : Moves G A B) : ParseI w s G B := by
  obtain ⟨hG, ho, v, cs, h1, h2, h3, h4, h5⟩ := h
  have hA := ho.1
  refine ⟨hG, ⟨Nat.le_trans ho.1 hm.1, fun k hk => (hm.2 k (by omega) (hG k (by omega))).trans (ho.2 k hk)⟩, v, cs, (hm.2 _ h1.lt (hG _ (by omega))).trans h1, Kd.R_step h2 (fun k hk hlt => hm.2 k hlt hk.1), (hm.2 _ h3.lt (hG _ (by omega))).trans h3, (hm.2 _ h4.lt (hG _ (by omega))).trans h4, h5⟩
theorem ParseX.moves (t : ByteArray) (w : World) (c : Code) (s : List ByteArray) (G : Nat → Prop) (A B : World) (h : ParseX t w c s G A) (hm : Moves G A B) : ParseX t w c s G B := by
  obtain ⟨hG, ho, hc, r, h1, h3, h4, h5⟩ := h
  have hA := ho.1
  exact ⟨hG, ⟨Nat.le_trans ho.1 hm.1, fun k hk => (hm.2 k (by omega) (hG k (by omega))).trans (ho.2 k hk)⟩, hc, r, (hm.2 _ h1.lt (hG _ (by omega))).trans h1, (hm.2 _ h3.lt (hG _ (by omega))).trans h3, (hm.2 _ h4.lt (hG _ (by omega))).trans h4, h5⟩
theorem entersLines1 : ∀ args w, (callFunc 33 args).run Tryd.prog w = .ok (.enter 33 args) w := enters_of Tryd.func33 (by kernel_rfl) rfl
theorem lines_make (s : ByteArray) (w : World) : Calls Tryd.prog 14 #[.string s] w fun e w' => e = .returned (.func (.func 33) #[] #[.pointer (some ⟨w.heap.size, 0, none⟩)]) ∧ w' = w.alloc (.cells #[.string s] 9) := by
  go_enter Tryd.func14, Tryd.ntmps14
  go_wp2
  go_ret
  exact ⟨rfl, rfl⟩

theorem results_cells3 {fn : Func} {p q u : Tmp} {tp tq tu : TypeId} (h : fn.results = #[.cell p tp, .cell q tq, .cell u tu]) (tmps : Array Value) (P : Program) (w : World) :
    (results fn tmps).run P w =
      ((asAddr (tmps.getD p undef)).run P w).andThen fun a w₁ => ((loadVar tp a).run P w₁).andThen fun v1 w₂ =>
      ((asAddr (tmps.getD q undef)).run P w₂).andThen fun a w₁ => ((loadVar tq a).run P w₁).andThen fun v2 w₂ =>
      ((asAddr (tmps.getD u undef)).run P w₂).andThen fun a w₁ => ((loadVar tu a).run P w₁).andThen fun v3 w₂ => .ok (.tuple #[v1, v2, v3]) w₂ := by
  simp only [results, h]
  simp [Sem.run_bind, Result.andThen]
theorem parse_end {s : ByteArray} {w W1 : World} {D : Nat} {tmps : Array Value} {A : Option Addr} {n c : Nat} {r : List S36 × Int × Int}
    (t2 : tmps.getD 2 undef = .pointer (some ⟨w.heap.size, 0, none⟩)) (t3 : tmps.getD 3 undef = .pointer (some ⟨w.heap.size + 1, 0, none⟩)) (t4 : tmps.getD 4 undef = .pointer (some ⟨w.heap.size + 1 + 1, 0, none⟩))
    (hD : w.heap.size + 4 ≤ D) (hK : W1.heap[D]? = some (.deferred (some []))) (hx0 : Boxed W1 w.heap.size 24 (.slice A n c)) (hx1 : Boxed W1 (w.heap.size + 1) 3 (.int .i64 r.2.1)) (hx2 : Boxed W1 (w.heap.size + 2) 27 (.int .i64 r.2.2))
    (hR : Kd.R k36 36 W1 0 (fun k => k ≠ D) (.slice A n c) r.1) (hp : if 65536 < s.size then r = ([], 0, 3) else ParseD [] 0 (linesB s.data.toList) r) (hb : Below w.heap.size w W1) :
    bodyPostM Fence.wide 3 Tryd.prog Tryd.f6 (ParsePost s w) .ret { tmps := tmps, defers := [{ target := .collected D, args := #[] }] } W1 := by
  have hbk : ∀ k, k ≠ D → (W1.putObj D (.deferred none)).heap[k]? = W1.heap[k]? := fun k h => World.putObj_heap_other h
  refine ⟨by simp, .inl ⟨_, _, rfl, run_takeDeferred hK, ?_⟩⟩
  refine ⟨.tuple #[.slice A n c, .int .i64 r.2.1, .int .i64 r.2.2], ?_, _, r, rfl, Kd.R_mono (Kd.R_step hR (fun k hk _ => hbk k hk)) (fun _ _ => trivial), hp, ⟨hb.os, hb.tape, hb.output, by simp; exact hb.size, fun k hk => (hbk k (by omega)).trans (hb.block k hk)⟩⟩
  rw [results_cells3 rfl]
  have c0 : (W1.putObj D (.deferred none)).cell? ⟨w.heap.size, 0, none⟩ = some (.slice A n c) := Boxed.cell ((hbk _ (by omega)).trans hx0)
  have c1 : (W1.putObj D (.deferred none)).cell? ⟨w.heap.size + 1, 0, none⟩ = some (.int .i64 r.2.1) := Boxed.cell ((hbk _ (by omega)).trans hx1)
  have c2 : (W1.putObj D (.deferred none)).cell? ⟨w.heap.size + 1 + 1, 0, none⟩ = some (.int .i64 r.2.2) := Boxed.cell ((hbk _ (by omega)).trans hx2)
  generalize W1.putObj D (.deferred none) = W2 at *
  dsimp only
  rw [t2, t3, t4]
  clear hx0 hx1 hx2 hR hp hb hbk hK
  go_simp
/-- The worlds of a line that is refused. -/
def rej1 (B : Nat) (W : World) : World := W.setCell ⟨B, 0, none⟩ (.slice none 0 0)
def rej2 (B : Nat) (z : Int) (W : World) : World := (rej1 B W).setCell ⟨B + 1, 0, none⟩ (.int .i64 z)
def rej3 (B : Nat) (z : Int) (W : World) : World := (rej2 B z W).setCell ⟨B + 1 + 1, 0, none⟩ (.int .i64 2)
theorem rej3_far (B : Nat) (z : Int) (W : World) (k : Nat) (h : ¬ (k = B ∨ k = B + 1 ∨ k = B + 1 + 1)) : (rej3 B z W).heap[k]? = W.heap[k]? :=
  (Below.heap_setCell _ _ _ _ (by show k ≠ B + 1 + 1; omega)).trans ((Below.heap_setCell _ _ _ _ (by show k ≠ B + 1; omega)).trans (Below.heap_setCell _ _ _ _ (by show k ≠ B; omega)))
theorem rej3_below (B : Nat) (z : Int) (W : World) : Below B W (rej3 B z W) :=
  (((Below.refl B W).setCell (p := ⟨B, 0, none⟩) (Nat.le_refl _) _).setCell (p := ⟨B + 1, 0, none⟩) (by simp) _).setCell (p := ⟨B + 1 + 1, 0, none⟩) (by show B ≤ B + 1 + 1; omega) _
theorem parse_reject {s x : ByteArray} {w Wb Wc : World} {pre : List ByteArray} {T G : Nat → Prop} {v0 : Value} {z1 z2 : Value} (hG : ∀ k, k < w.heap.size + 3 → G k) (hold : Old w Wb) (hk : KeptO Wb Wc G)
    (hx0 : Boxed Wc w.heap.size 24 v0) (hx1 : Boxed Wc (w.heap.size + 1) 3 z1) (hx2 : Boxed Wc (w.heap.size + 2) 27 z2) (holdc : Old w Wc)
    (hstop : (pre ++ [x]).map (·.data.toList) <+: linesB s.data.toList → ParseD [] 0 (linesB s.data.toList) ([], (pre.length : Int), 2)) (m : Nat) :
    ∃ G', ParseX s w .ret (pre ++ [x]) G' ((rej3 w.heap.size pre.length Wc).drewN m) ∧ KeptO Wb ((rej3 w.heap.size pre.length Wc).drewN m) G ∧ Adds False T G G' Wb := by
  have hb := rej3_below w.heap.size pre.length Wc
  have e0 : Boxed (rej3 w.heap.size pre.length Wc) w.heap.size 24 (.slice none 0 0) :=
    (Below.heap_setCell _ _ _ _ (by show w.heap.size ≠ w.heap.size + 1 + 1; omega)).trans ((Below.heap_setCell _ _ _ _ (by show w.heap.size ≠ w.heap.size + 1; omega)).trans (Boxed.set _ hx0))
  have e1 : Boxed (rej3 w.heap.size pre.length Wc) (w.heap.size + 1) 3 (.int .i64 pre.length) :=
    (Below.heap_setCell _ _ _ _ (by show w.heap.size + 1 ≠ w.heap.size + 1 + 1; omega)).trans (Boxed.set _ ((Below.heap_setCell _ _ _ _ (by show w.heap.size + 1 ≠ w.heap.size; omega)).trans hx1))
  have e2 : Boxed (rej3 w.heap.size pre.length Wc) (w.heap.size + 2) 27 (.int .i64 2) :=
    Boxed.set _ ((Below.heap_setCell _ _ _ _ (by show w.heap.size + 2 ≠ w.heap.size + 1; omega)).trans ((Below.heap_setCell _ _ _ _ (by show w.heap.size + 2 ≠ w.heap.size; omega)).trans hx2))
  refine ⟨G, ⟨hG, ?_, rfl, ([], (pre.length : Int), 2), e0, e1, e2, rfl, hstop⟩, ?_, fun k h => .inl h⟩
  · exact ⟨Nat.le_trans holdc.1 hb.size, fun k hk => (hb.block k hk).trans (holdc.2 k hk)⟩
  · exact ⟨hb.os.trans hk.os, hb.tape.trans hk.tape, hb.output.trans hk.output, Nat.le_trans hk.size hb.size, fun k hl hn => (rej3_far _ _ _ k (fun h => hn (hG k (by omega)))).trans (hk.blk k hl hn)⟩
theorem splitB_size (sep : ByteArray) : ∀ (k : Nat) (s x : ByteArray), x ∈ Lib.splitB sep 0 k s → x.size ≤ s.size
  | 0, s, x, h => by
    simp [Lib.splitB] at h; rw [h]; exact Nat.le_refl _
  | k + 1, s, x, h => by
    unfold Lib.splitB at h
    split at h
    · simp at h; rw [h]; exact Nat.le_refl _
    · rcases List.mem_cons.1 h with rfl | h
      · rw [ByteArray.size_extract]; omega
      · have := splitB_size sep k _ x h
        rw [ByteArray.size_extract] at this; omega
theorem infoCell : (Tryd.prog.info? 36).map (fun i => (i.zero, i.size, i.bytes)) = some (some (.agg #[.slice none 0 0, .int .i64 0, .int .i64 0]), 3, 40) := by kernel_rfl
/-- The frame at a round's body. -/
def parseTmps (s : ByteArray) (B : Nat) (x : ByteArray) : Array Value := #[.string s, undef, .pointer (some ⟨B, 0, none⟩), .pointer (some ⟨B + 1, 0, none⟩), .pointer (some ⟨B + 1 + 1, 0, none⟩), .string x, undef, undef, undef, undef, undef, .string s, .int .i64 s.size, .bool false, .string s, .func (.func 33) #[] #[.pointer (some ⟨B + 1 + 1 + 1, 0, none⟩)], .string x, undef, undef, undef, undef, undef, undef, undef, undef, undef, undef, undef, undef, undef, undef, undef, undef, undef, undef, undef, undef, undef, undef, undef, undef, undef, undef, undef, undef, undef, undef, undef, undef, undef, undef, undef, undef, undef, undef, undef, undef, undef, undef, undef, undef, undef, undef, undef, undef, undef, undef, undef, undef, undef, undef, undef]
set_option maxHeartbeats 8000000 in
set_option maxRecDepth 100000 in
theorem parse_any (s : ByteArray) (w : World) (hL : Lays w) :
    Calls Tryd.prog 6 #[.string s] w (ParsePost s w) := by
  refine (callsIn_wide (n := 3)).1 ?_
  refine callsIn_of_wp_marks Tryd.func6 rfl trivial ?_ rfl
  simp only [Tryd.ntmps6, List.size_toArray, List.length_cons, List.length_nil, Nat.reduceAdd, Nat.reduceSub, Array.replicate_succ, Array.replicate_zero, List.push_toArray, List.append_toArray, List.nil_append, List.cons_append]
  have HL := Aside0.mk hL
  clear hL
  by_cases hs : 65536 < s.size
  · have hsz : (65536 : Int) < (s.size : Int) := by omega
    have hb : Below w.heap.size w (((w.alloc (.cells #[.slice none 0 0] 24)).alloc (.cells #[.int .i64 0] 3)).alloc (.cells #[.int .i64 3] 27)) := (((Below.refl _ w).alloc (Nat.le_refl _) _).alloc (by simp) _).alloc (by simp; omega) _
    have HB := Aside0.mk hb
    have HS : Aside0 (∀ (α : Prop) (a b : α) , True) := ⟨fun _ _ _ => trivial⟩
    clear hb
    gi_wp2_with fail
    refine ⟨.tuple #[.slice none 0 0, .int .i64 0, .int .i64 3], ?_, _, ([], 0, 3), rfl, Kd.R_nil _ _ _ _ _, by rw [if_pos hs], HB.out⟩
    rw [results_cells3 rfl]
    go_simp
  · have hsz : ¬ (65536 : Int) < (s.size : Int) := by omega
    have hlm := fun W => lines_make s W
    gi_wp2_with (first | (refine ⟨trivial, ?_⟩; gi_at_call 14; refine (callsIn_wide.2 (hlm _)).mono ?_; rintro e w1 ⟨rfl, rfl⟩))
    have hb0 : Below w.heap.size w ((((w.alloc (.cells #[.slice none 0 0] 24)).alloc (.cells #[.int .i64 0] 3)).alloc (.cells #[.int .i64 0] 27)).alloc (.cells #[.string s] 9)) := ((((Below.refl _ w).alloc (Nat.le_refl _) _).alloc (by simp) _).alloc (by simp; omega) _).alloc (by simp; omega) _
    have hx0 : Boxed ((((w.alloc (.cells #[.slice none 0 0] 24)).alloc (.cells #[.int .i64 0] 3)).alloc (.cells #[.int .i64 0] 27)).alloc (.cells #[.string s] 9)) w.heap.size 24 (.slice none 0 0) := (((Boxed.new w _ _).alloc _).alloc _).alloc _
    have hx1 : Boxed ((((w.alloc (.cells #[.slice none 0 0] 24)).alloc (.cells #[.int .i64 0] 3)).alloc (.cells #[.int .i64 0] 27)).alloc (.cells #[.string s] 9)) (w.heap.size + 1) 3 (.int .i64 0) := by
      have := ((Boxed.new (w.alloc (.cells #[.slice none 0 0] 24)) 3 (.int .i64 0)).alloc (.cells #[.int .i64 0] 27)).alloc (.cells #[.string s] 9)
      rwa [World.size_alloc] at this
    have hx2 : Boxed ((((w.alloc (.cells #[.slice none 0 0] 24)).alloc (.cells #[.int .i64 0] 3)).alloc (.cells #[.int .i64 0] 27)).alloc (.cells #[.string s] 9)) (w.heap.size + 2) 27 (.int .i64 0) := by
      have := (Boxed.new ((w.alloc (.cells #[.slice none 0 0] 24)).alloc (.cells #[.int .i64 0] 3)) 27 (.int .i64 0)).alloc (.cells #[.string s] 9)
      rwa [World.size_alloc, World.size_alloc] at this
    have hx3 : Boxed ((((w.alloc (.cells #[.slice none 0 0] 24)).alloc (.cells #[.int .i64 0] 3)).alloc (.cells #[.int .i64 0] 27)).alloc (.cells #[.string s] 9)) (w.heap.size + 1 + 1 + 1) 9 (.string s) := by
      have := Boxed.new (((w.alloc (.cells #[.slice none 0 0] 24)).alloc (.cells #[.int .i64 0] 3)).alloc (.cells #[.int .i64 0] 27)) 9 (.string s)
      rwa [World.size_alloc, World.size_alloc, World.size_alloc] at this
    have hsz0 : ((((w.alloc (.cells #[.slice none 0 0] 24)).alloc (.cells #[.int .i64 0] 3)).alloc (.cells #[.int .i64 0] 27)).alloc (.cells #[.string s] 9)).heap.size = w.heap.size + 4 := by simp
    generalize (((w.alloc (.cells #[.slice none 0 0] 24)).alloc (.cells #[.int .i64 0] 3)).alloc (.cells #[.int .i64 0] 27)).alloc (.cells #[.string s] 9) = W0 at *
    have HX3 := Aside0.mk hx3
    have HSZ := Aside0.mk hsz0
    have HB0 := Aside0.mk hb0
    have HI0 : Aside0 (ParseI w [] (fun k => k < w.heap.size + 3) W0) := ⟨fun k h => h, Old.of_below hb0, .slice none 0 0, [], hx0, Kd.R_nil _ _ _ _ _, hx1, hx2, ⟨Nat.zero_le _, rfl⟩, Reach.nil⟩
    clear hx0 hx1 hx2 hx3 hsz0 hb0
    refine wpIn_range_outer (P := Tryd.prog) (gf := 33) (lb := #[.pointer (some ⟨w.heap.size + 1 + 1 + 1, 0, none⟩)]) rfl entersLines1 (lines_seq s _ W0 HX3.out (by omega)) (fun k h => by have := HSZ.out; omega) (Below.refl _ _) EncStr.moves (fun x vs T W h => by rw [h.1]; rfl)
      (ParseI w) (ParseX s w) (ParseI.moves w) (ParseX.moves s w) (fun k => k < w.heap.size + 3) (fun k h => by have := HSZ.out; omega) (fun k h e => by omega) HI0.out
      (fun vs W a' Wa => ∃ x, vs = #[.string x] ∧ Wa = W ∧ a' = { tmps := parseTmps s w.heap.size x, defers := [] })
      ?assign ?body ?done ?stop
    case assign =>
      intro l x vs T W K he hK
      obtain ⟨rfl, _⟩ := he
      gi_wp2
      exact hK _ _ (Below.refl _ _) ⟨x, rfl, rfl, rfl⟩
    case body =>
      intro l pre x vs T G W Wa Wb a' hl hlW hba hax hmv hsz1 hrr hI he hT hGl hlen
      obtain ⟨x', hvs, rfl, rfl⟩ := hax
      obtain ⟨hev, hxs, _⟩ := he
      obtain rfl : x = x' := by
        have := hvs.symm.trans hev
        simp at this
        exact this.symm
      obtain ⟨hG, hold, v, cs, hx0, hR, hx1, hx2, ⟨hl30, hcl⟩, hreach⟩ := hI
      have HCL := Aside0.mk hcl
      clear hcl
      have hLW := HL.out.old hold
      obtain ⟨m, hm⟩ := hLW.mx
      obtain ⟨tx, htx⟩ : ∃ tx : ByteArray, tx = ⟨(Lib.trimSuffix x.data.toList [10]).toArray⟩ := ⟨_, rfl⟩
      have htr := fun W => Tryd.strings_TrimSuffix x ⟨#[10]⟩ W (by omega)
      have htxs : tx.size ≤ 100000 := by
        rw [htx]
        show (Lib.trimSuffix x.data.toList [10]).length ≤ _
        have e : x.data.toList.length = x.size := rfl
        unfold Lib.trimSuffix
        split
        · rw [List.length_take]; omega
        · omega
      have hspl := Tryd.strings_Split tx ⟨#[32]⟩ m Wb (by omega) hm (by decide)
      have hws : (Lib.splitB ⟨#[32]⟩ 0 (Lib.countB tx ⟨#[32]⟩) tx).length = Lib.countB tx ⟨#[32]⟩ + 1 := Lib.splitB_all _ (by decide) _ _ _ rfl
      have htr2 : ∀ W, Calls Tryd.prog 16 #[.string x, .string ⟨#[10]⟩] W fun e w' => e = .returned (.string tx) ∧ w' = W := fun W => by rw [htx]; exact htr W
      obtain ⟨ws, hwe⟩ : ∃ ws, ws = Lib.splitB ⟨#[32]⟩ 0 (Lib.countB tx ⟨#[32]⟩) tx := ⟨_, rfl⟩
      obtain ⟨n, hn⟩ : ∃ n, n = Lib.countB tx ⟨#[32]⟩ := ⟨_, rfl⟩
      rw [← hwe, ← hn] at hws
      rw [← hn] at hspl
      rw [← hn] at hwe
      rw [← hwe] at hspl
      have HTX := Aside0.mk htx
      have HWE := Aside0.mk hwe
      have HN := Aside0.mk hn
      have HWS := Aside0.mk hws
      have HLW := Aside0.mk hLW
      have HR := Aside0.mk hR
      have HX0 := Aside0.mk hx0
      have HX1 := Aside0.mk hx1
      have HX2 := Aside0.mk hx2
      have HRE := Aside0.mk hreach
      have HOLD := Aside0.mk hold
      have HG := Aside0.mk hG
      have HB1 : Aside0 (Below Wb.heap.size Wb (Wb.alloc (.cells (ws.map Value.string).toArray 9))) := ⟨below_box Wb _⟩
      clear htx hwe hn hws htr hLW hm hR hx0 hx1 hx2 hreach hold hG hvs hev hba hmv hsz1 hrr hT hlen
      dsimp only [parseTmps]
      by_cases h3 : n = 2
      · subst h3
        have hw3 : ∃ a0 a1 a2, ws = [a0, a1, a2] := by
          have := HWS.out
          match ws, this with
          | [a0, a1, a2], _ => exact ⟨a0, a1, a2, rfl⟩
        obtain ⟨a0, a1, a2, rfl⟩ := hw3
        have hsz : ∀ y ∈ [a0, a1, a2], y.size ≤ 100000 := fun y hy => by
          rw [HWE.out] at hy
          exact Nat.le_trans (splitB_size _ _ _ _ hy) htxs
        have hs0 := hsz a0 (by simp)
        have hs1 := hsz a1 (by simp)
        have hs2 := hsz a2 (by simp)
        have hat0 := fun W (hW : Below Wb.heap.size Wb W) => atoi_any a0 W hs0 (HL.out.old (HOLD.out.below hW HOLD.out.1))
        have hat1 := fun W (hW : Below Wb.heap.size Wb W) => atoi_any a1 W hs1 (HL.out.old (HOLD.out.below hW HOLD.out.1))
        have HAT0 := Aside0.mk hat0
        have HAT1 := Aside0.mk hat1
        simp only [List.map_cons, List.map_nil] at hspl HB1
        have d0 : (Wb.alloc (.cells [Value.string a0, .string a1, .string a2].toArray 9)).cell? ⟨Wb.heap.size, 0, none⟩ = some (.string a0) := by rw [World.cell?_alloc_at _ _ _ _ rfl]; rfl
        have d1 : (Wb.alloc (.cells [Value.string a0, .string a1, .string a2].toArray 9)).cell? ⟨Wb.heap.size, 1, none⟩ = some (.string a1) := by rw [World.cell?_alloc_at _ _ _ _ rfl]; rfl
        have d2 : (Wb.alloc (.cells [Value.string a0, .string a1, .string a2].toArray 9)).cell? ⟨Wb.heap.size, 2, none⟩ = some (.string a2) := by rw [World.cell?_alloc_at _ _ _ _ rfl]; rfl
        have hlw : Wb.heap.size < (Wb.alloc (.cells [Value.string a0, .string a1, .string a2].toArray 9)).heap.size := by simp
        clear hat0 hat1 hsz
        generalize Wb.alloc (.cells [Value.string a0, .string a1, .string a2].toArray 9) = Wc at *
        gi_upto_region 9 with (first | (refine ⟨trivial, rfl, ?_⟩; gi_at_call 16; refine (CallsIn.inRound l (callsIn_wide.2 (htr2 _))).mono ?_; rintro e w1 ⟨rfl, hww⟩; have hww2 := hww.symm; clear hww; subst hww2) | (refine ⟨trivial, rfl, ?_⟩; gi_at_call 15; refine (CallsIn.inRound l (callsIn_wide.2 hspl)).mono ?_; rintro e w1 ⟨rfl, hww⟩; have hww2 := hww.symm; clear hww; subst hww2) | (refine ⟨trivial, rfl, ?_⟩; gi_at_call 17; refine (CallsIn.inRound l (callsIn_wide.2 (HAT0.out _ HB1.out))).mono ?_; rintro e w2 ⟨z0, ev0, rfl, hz0, hb2⟩; have HZ0 := Aside0.mk hz0; have HB2 := Aside0.mk hb2; clear hz0))
        have d12 := (hb2.cell (p := ⟨Wb.heap.size, 1, none⟩) hlw).trans d1
        have d22 := (hb2.cell (p := ⟨Wb.heap.size, 2, none⟩) hlw).trans d2
        have HB12 : Aside0 (Below Wb.heap.size Wb w2) := ⟨HB1.out.trans (hb2.mono HB1.out.size)⟩
        have hlw2 := Nat.lt_of_lt_of_le hlw hb2.size
        clear d0 d1 d2 hb2 hlw htr2 hspl
        gi_upto_region 10 with (first | (refine ⟨trivial, rfl, ?_⟩; gi_at_call 17; refine (CallsIn.inRound l (callsIn_wide.2 (HAT1.out _ HB12.out))).mono ?_; rintro e w3 ⟨z1, ev1, rfl, hz1, hb3⟩; have HZ1 := Aside0.mk hz1; have HB3 := Aside0.mk hb3; clear hz1))
        have d23 := (hb3.cell (p := ⟨Wb.heap.size, 2, none⟩) hlw2).trans d22
        have HB13 : Aside0 (Below Wb.heap.size Wb w3) := ⟨HB12.out.trans (hb3.mono HB12.out.size)⟩
        have hlw3 := Nat.lt_of_lt_of_le hlw2 hb3.size
        clear hb3 d12 d22 hlw2
        obtain ⟨A, c, evv⟩ := Kd.R_slice HR.out
        subst evv
        have cB : w3.cell? ⟨w.heap.size, 0, none⟩ = some (.slice A cs.length c) := (HB13.out.cell (p := ⟨w.heap.size, 0, none⟩) HX0.out.lt).trans HX0.out.cell
        have HROW := Aside0.mk (fun W => row_any a2 W hs2)
        have HB14 : Aside0 (Below Wb.heap.size Wb w3.drew) := ⟨below_drew1 HB13.out⟩
        have hlw4 : Wb.heap.size < w3.drew.heap.size := hlw3
        refine startR_ (n := 11) (S := fun w' => w'.cell? ⟨w.heap.size, 0, none⟩ = some (.slice A cs.length c) ∧ w'.cell? ⟨Wb.heap.size, 2, none⟩ = some (.string a2)) (ds := [9, 10]) #[false, false, false, false, false, false, false, false, false, false, false] (by kernel_rfl) (by rintro ⟨_, _, h⟩; exact h) (by kernel_rfl) rfl rfl ⟨cB, d23⟩ (fun hHeld => ?_)
        clear cB d23 hlw3
        generalize w3.drew = w4 at *
        refine take_ (i := 0) (N := some 38) (v := ?_) (a' := ?_) #[true, false, false, false, false, false, false, false, false, false, false] rfl rfl (by kernel_rfl) (fun _ _ _ h => h) (Or.inl ⟨by rfl, ?_⟩) hHeld ?_ ?_
        rotate_left
        · rintro w' ⟨s0, s1⟩
          go_simp
          with_reducible rfl
        rotate_left
        · simp only [Act.put, List.setIfInBounds_toArray, List.set_cons_zero, List.set_cons_succ]
          rfl
        refine pure_ (i := 1) (N := some 39) (v := ?_) (a' := ?_) #[true, true, false, false, false, false, false, false, false, false, false] rfl rfl (by kernel_rfl) (fun _ _ _ h => h) (Or.inl ⟨by rfl, ?_⟩) ?_ ?_
        rotate_left
        · intro w'
          go_simp
          with_reducible rfl
        rotate_left
        · simp only [Act.put, List.setIfInBounds_toArray, List.set_cons_zero, List.set_cons_succ]
          rfl
        refine pure_ (i := 2) (N := some 40) (v := ?_) (a' := ?_) #[true, true, true, false, false, false, false, false, false, false, false] rfl rfl (by kernel_rfl) (fun _ _ _ h => h) (Or.inl ⟨by rfl, ?_⟩) ?_ ?_
        rotate_left
        · intro w'
          go_simp
          with_reducible rfl
        rotate_left
        · simp only [Act.put, List.setIfInBounds_toArray, List.set_cons_zero, List.set_cons_succ]
          rfl
        refine take_ (i := 3) (N := some 41) (v := ?_) (a' := ?_) #[true, true, true, true, false, false, false, false, false, false, false] rfl rfl (by kernel_rfl) (fun _ _ _ h => h) (Or.inl ⟨by rfl, ?_⟩) hHeld ?_ ?_
        rotate_left
        · rintro w' ⟨s0, s1⟩
          go_simp
          with_reducible rfl
        rotate_left
        · simp only [Act.put, List.setIfInBounds_toArray, List.set_cons_zero, List.set_cons_succ]
          rfl
        refine pure_ (i := 5) (N := some 43) (v := ?_) (a' := ?_) #[true, true, true, true, false, true, false, false, false, false, false] rfl rfl (by kernel_rfl) (fun _ _ _ h => h) (Or.inl ⟨by rfl, ?_⟩) ?_ ?_
        rotate_left
        · intro w'
          go_simp
          with_reducible rfl
        rotate_left
        · simp only [Act.put, List.setIfInBounds_toArray, List.set_cons_zero, List.set_cons_succ]
          rfl
        refine pure_ (i := 6) (N := some 44) (v := ?_) (a' := ?_) #[true, true, true, true, false, true, true, false, false, false, false] rfl rfl (by kernel_rfl) (fun _ _ _ h => h) (Or.inl ⟨by rfl, ?_⟩) ?_ ?_
        rotate_left
        · intro w'
          go_simp
          with_reducible rfl
        rotate_left
        · simp only [Act.put, List.setIfInBounds_toArray, List.set_cons_zero, List.set_cons_succ]
          rfl
        refine one_ (i := 4) (N := some 42) #[true, true, true, true, true, true, true, false, false, false, false] rfl rfl (by kernel_rfl) (by decide) (fun K hK => ?_)
        refine goes_ Tryd.func18 (by kernel_rfl) rfl #[.string a2] (by rfl) rfl rfl (by (try simp only [List.map_toArray, List.map_cons, List.map_nil]); first | done | rfl) ?_
        with_reducible refine (HROW.out w4).mono ?_
        rintro e w5 ⟨v5, xs, rfl, hR5, hl5, hro5, hb5⟩
        refine ⟨_, rfl, ?_⟩
        obtain ⟨A5, c5, ev5⟩ := Kd.R_slice hR5
        subst ev5
        refine hK.out _ _ ⟨(hb5.cell (p := ⟨w.heap.size, 0, none⟩) (World.block_lt_of_cell? _ _ hHeld.1)).trans hHeld.1, (hb5.cell (p := ⟨Wb.heap.size, 2, none⟩) hlw4).trans hHeld.2⟩ (fun hHeld2 => ?_)
        clear hK K hHeld
        have hHeld := hHeld2
        clear hHeld2
        refine norm_ (a' := ?_) ?_ ?_
        rotate_left
        · show Act.put _ (some 42) _ = _
          simp only [Act.put, List.setIfInBounds_toArray, List.set_cons_zero, List.set_cons_succ]
          rfl
        refine pure_ (i := 7) (N := some 45) (v := ?_) (a' := ?_) #[true, true, true, true, true, true, true, true, false, false, false] rfl rfl (by kernel_rfl) (fun _ _ _ h => h) (Or.inl ⟨by rfl, ?_⟩) ?_ ?_
        rotate_left
        · intro w'
          go_simp
          with_reducible rfl
        rotate_left
        · simp only [Act.put, List.setIfInBounds_toArray, List.set_cons_zero, List.set_cons_succ]
          rfl
        refine one_ (i := 8) (N := some 46) #[true, true, true, true, true, true, true, true, true, false, false] rfl rfl (by kernel_rfl) (by decide) (fun K hK => ?_)
        go_simp
        have HB15 : Aside0 (Below Wb.heap.size Wb w5) := ⟨HB14.out.trans (hb5.mono HB14.out.size)⟩
        have hlw5 := Nat.lt_of_lt_of_le hlw4 hb5.size
        have hvb : ∀ k, (Value.slice A cs.length c).ownBlock = some k → (G k ∧ w.heap.size + 3 ≤ k) ∧ k < Wb.heap.size := fun k hk => ⟨HR.out.1 k hk, Kd.R_lt HR.out k hk⟩
        have HVB := Aside0.mk hvb
        have HO5 : Aside0 (Kd.R k36 36 w5 0 (fun k => (G k ∨ Wb.heap.size ≤ k) ∧ w.heap.size + 3 ≤ k) (.slice A cs.length c) cs) := ⟨Kd.R_mono (Kd.R_step HR.out (fun k hk hlt => HB15.out.block k hlt)) (fun k hk => ⟨.inl hk.1, hk.2⟩)⟩
        have HR5 : Aside0 (Kd.R (Kd.int .i64) 3 w5 0 (fun k => w4.heap.size ≤ k) (.slice A5 xs.length c5) xs) := ⟨Kd.R_lower (Kd.R_mono (Kd.R_bound hR5) (fun k hk => hk.2.1)) (Nat.zero_le _)⟩
        have HRO5 := Aside0.mk hro5
        have HB5 := Aside0.mk hb5
        have hb6 := below_box w5 (.cells #[.slice A5 xs.length c5, .int .i64 z0, .int .i64 z1] 36)
        have hcl0 := World.block_lt_of_cell? _ _ hHeld.1
        refine hK.out _ _ ⟨(hb6.cell (p := ⟨w.heap.size, 0, none⟩) hcl0).trans hHeld.1, (hb6.cell (p := ⟨Wb.heap.size, 2, none⟩) hlw5).trans hHeld.2⟩ (fun hHeld2 => ?_)
        clear hK K hb5 hR5 hro5 hvb
        have hkb : w.heap.size + 3 ≤ Wb.heap.size := by have := HX2.out.lt; omega
        refine last_ (i := 9) (N := some 47) #[true, true, true, true, true, true, true, true, true, true, false] rfl rfl (by kernel_rfl) (by decide) (fun K hK => ?_)
        refine Kd.R_append_step k36 (w0 := w5) 0 (by rfl) (.tmp 38) (.tmp 46) 24 36 (.agg #[.slice none 0 0, .int .i64 0, .int .i64 0]) 40 rfl Tryd.underlying24 infoCell rfl (by decide) (by omega) (.slice A cs.length c) cs ⟨xs, z0, z1⟩ [.slice A5 xs.length c5, .int .i64 z0, .int .i64 z1] (fun k => (G k ∨ Wb.heap.size ≤ k) ∧ w.heap.size + 3 ≤ k) (fun k => w4.heap.size ≤ k) (by rfl) (by rfl) (k36_mkM _ _ _ ⟨xs, z0, z1⟩ HR5.out)
          (fun k hk => ⟨⟨.inr (by omega), by omega⟩, fun e => by have := (HVB.out k e.symm).2; omega⟩) (fun k hk => ⟨.inr (by have := HB15.out.size; omega), by have := HB15.out.size; omega⟩) HO5.out (Below.refl 0 w5) (Nat.zero_le _) (by omega) ?_
        intro v6 w6 ho6 _ hg6 hat6
        refine hK.out _ _ ?_
        clear hK K hHeld hHeld2
        obtain ⟨A6, c6, ev6⟩ := Kd.R_slice ho6
        subst ev6
        have hkeep : ∀ k, k < w.heap.size + 3 → w6.heap[k]? = Wb.heap[k]? := fun k hk => (hg6.block k (by have := HB15.out.size; omega) (fun e => by have := (HVB.out k e.symm).1.2; omega)).trans (HB15.out.block k (by omega))
        have X0 : Boxed w6 w.heap.size 24 (.slice A cs.length c) := (hkeep _ (by omega)).trans HX0.out
        have X1 : Boxed w6 (w.heap.size + 1) 3 (.int .i64 pre.length) := (hkeep _ (by omega)).trans HX1.out
        have X2 : Boxed w6 (w.heap.size + 2) 27 (.int .i64 0) := (hkeep _ (by omega)).trans HX2.out
        have hc60 := X0.cell
        have hf60 := X0.frozen
        have XX0 := Aside0.mk X0
        have XX1 := Aside0.mk X1
        have XX2 := Aside0.mk X2
        have HO6 := Aside0.mk ho6
        have HG6 := Aside0.mk hg6
        have HKEEP := Aside0.mk hkeep
        clear X0 X1 X2 ho6 hg6 hat6 hkeep
        refine norm_ (a' := ?_) ?_ ?_
        rotate_left
        · show Act.put _ (some 47) _ = _
          simp only [Act.put, List.setIfInBounds_toArray, List.set_cons_zero, List.set_cons_succ]
          rfl
        refine last_ (i := 10) (N := none) #[true, true, true, true, true, true, true, true, true, true, true] rfl rfl (by kernel_rfl) (by decide) (fun K hK => ?_)
        go_simp
        refine hK.out _ _ ?_
        clear hK K
        have X0 : Boxed (w6.setCell ⟨w.heap.size, 0, none⟩ (.slice A6 (cs.length + 1) c6)) w.heap.size 24 (.slice A6 (cs.length + 1) c6) := Boxed.set _ XX0.out
        have hfar : ∀ k, k ≠ w.heap.size → (w6.setCell ⟨w.heap.size, 0, none⟩ (.slice A6 (cs.length + 1) c6)).heap[k]? = w6.heap[k]? := fun k hk => Below.heap_setCell _ _ _ _ hk
        have hb7 := (Below.refl w.heap.size w6).setCell (p := ⟨w.heap.size, 0, none⟩) (Nat.le_refl _) (.slice A6 (cs.length + 1) c6)
        have X1 : Boxed (w6.setCell ⟨w.heap.size, 0, none⟩ (.slice A6 (cs.length + 1) c6)) (w.heap.size + 1) 3 (.int .i64 pre.length) := (hfar _ (by omega)).trans XX1.out
        have X2 : Boxed (w6.setCell ⟨w.heap.size, 0, none⟩ (.slice A6 (cs.length + 1) c6)) (w.heap.size + 2) 27 (.int .i64 0) := (hfar _ (by omega)).trans XX2.out
        have R7 : Kd.R k36 36 (w6.setCell ⟨w.heap.size, 0, none⟩ (.slice A6 (cs.length + 1) c6)) 0 (fun k => (G k ∨ Wb.heap.size ≤ k) ∧ w.heap.size + 3 ≤ k) (.slice A6 (cs.length + 1) c6) (cs ++ [⟨xs, z0, z1⟩]) := by
          have := HO6.out
          rw [List.length_append, List.length_singleton] at this
          exact Kd.R_step this (fun k hk _ => hfar k (by omega))
        have K7 : KeptO Wb (w6.setCell ⟨w.heap.size, 0, none⟩ (.slice A6 (cs.length + 1) c6)) G := by
          refine ⟨hb7.os.trans (HG6.out.os.trans HB15.out.os), hb7.tape.trans (HG6.out.tape.trans HB15.out.tape), hb7.output.trans (HG6.out.output.trans HB15.out.output), ?_, fun k hk hn => ?_⟩
          · exact Nat.le_trans HB15.out.size (Nat.le_trans HG6.out.size hb7.size)
          · exact (hfar k (fun e => hn (HG.out k (by omega)))).trans ((HG6.out.block k (Nat.lt_of_lt_of_le hk HB15.out.size) (fun e => hn (HVB.out k e.symm).1.1)).trans (HB15.out.block k hk))
        have O7 : Old w (w6.setCell ⟨w.heap.size, 0, none⟩ (.slice A6 (cs.length + 1) c6)) := ⟨Nat.le_trans HOLD.out.1 K7.size, fun k hk => (hfar k (by omega)).trans ((HKEEP.out k (by omega)).trans (HOLD.out.2 k hk))⟩
        have hcand : ∀ y, Good cs x.data.toList y → y = ⟨xs, z0, z1⟩ ∧ ev0 = .nilIface ∧ ev1 = .nilIface := fun y hy => by
          obtain ⟨y1, y2, y3⟩ := hy.words
          have ha := hy.ok.2.2.atoi
          have hw := congrArg (List.map (fun b : ByteArray => b.data.toList)) HWE.out
          rw [Lib.splitB_data, HTX.out] at hw
          have hw2 : [a0.data.toList, a1.data.toList, a2.data.toList] = [Lib.itoa y.f1, Lib.itoa y.f2, y.f0.map signB] := by
            rw [← y3, ← y1]; exact hw
          simp only [List.cons.injEq, and_true] at hw2
          obtain ⟨e0, e1, e2⟩ := hw2
          have h0 : z0 = y.f1 ∧ ev0 = .nilIface := by
            rcases HZ0.out with ⟨p, q⟩ | ⟨p, _⟩
            · rw [e0, ha.1] at p; exact ⟨(Lib.NumEnd.ok.inj p).symm, q⟩
            · exact absurd (by rw [e0]; exact ha.1) (p y.f1)
          have h1 : z1 = y.f2 ∧ ev1 = .nilIface := by
            rcases HZ1.out with ⟨p, q⟩ | ⟨p, _⟩
            · rw [e1, ha.2.1] at p; exact ⟨(Lib.NumEnd.ok.inj p).symm, q⟩
            · exact absurd (by rw [e1]; exact ha.2.1) (p y.f2)
          have h2 : xs = y.f0 := by
            rw [HRO5.out (fun b hb => ha.2.2.2.2 b (by rw [← e2]; exact hb)), e2]; exact ha.2.2.1
          refine ⟨?_, h0.2, h1.2⟩
          rw [h2, h0.1, h1.1]
        have HCAND := Aside0.mk hcand
        have hstop : (∀ y, ¬ Good cs x.data.toList y) → (pre ++ [x]).map (·.data.toList) <+: linesB s.data.toList → ParseD [] 0 (linesB s.data.toList) ([], (pre.length : Int), 2) := fun hno hp => by
          have := HRE.out.stop (t := x.data.toList) hno (by simpa using hp)
          simpa using this
        have HSTOP := Aside0.mk hstop
        obtain ⟨A7, c7, e7, hl7, hC7⟩ := Kd.R_reads R7
        rw [List.length_append, List.length_singleton] at e7 hl7 hC7
        simp only [Value.slice.injEq, true_and] at e7
        obtain ⟨rfl, rfl⟩ := e7
        have HC7 := Aside0.mk hC7
        have HL7 := Aside0.mk hl7
        have Y0 := Aside0.mk X0
        have Y1 := Aside0.mk X1
        have Y2 := Aside0.mk X2
        have HR7 := Aside0.mk R7
        have HK7 := Aside0.mk K7
        have HO7 := Aside0.mk O7
        have hc70 := X0.cell
        have hc71 := X1.cell
        have hc72 := X2.cell
        have hf70 := X0.frozen
        have hf71 := X1.frozen
        have hf72 := X2.frozen
        clear X0 X1 X2 R7 K7 O7 hfar hb7 hcand hstop hC7 hl7 hc60 hf60
        generalize w6.setCell ⟨w.heap.size, 0, none⟩ (.slice A6 (cs.length + 1) c6) = w7 at *
        refine done_ (by kernel_rfl) ?_
        have hcl := HCL.out
        rw [hcl] at hc70
        gi_upto_region 11 with (fail)
        have hbad : ∀ (N : Nat), (Value.iface 92 (.pointer (some ⟨N, 0, none⟩))) ≠ .nilIface := fun N e => by cases e
        have HBAD := Aside0.mk hbad
        clear hbad
        rcases HZ0.out with ⟨_, rfl⟩ | ⟨_, N0, rfl⟩
        · rcases HZ1.out with ⟨_, rfl⟩ | ⟨_, N1, rfl⟩
          · have hls := fun W (hW : Below w7.heap.size w7 W) => bit_listed.calls A6 c6 (cs ++ [⟨xs, z0, z1⟩]) (listB (cs ++ [⟨xs, z0, z1⟩])) W (by rw [List.length_append, List.length_singleton]; exact Kd.C_below HC7.out hW) (by rw [List.length_append, List.length_singleton]; exact HL7.out) rfl
            simp only [List.length_append, List.length_singleton] at hls
            have hlsx := hls w7 (Below.refl _ _)
            clear hls
            rw [hcl] at hlsx HC7
            cases hlb : listB (cs ++ [⟨xs, z0, z1⟩]) with
            | true =>
              rw [hlb] at hlsx
              have HLB := Aside0.mk hlb
              have hyo := (listB_ok hlb).2 ⟨xs, z0, z1⟩ (by simp)
              obtain ⟨ad, A8, c8, rfl, g0, g1, g2, hl8, hr8⟩ := at_T36 HC7.out (pre.length : Int) (by omega) (by omega)
              have hrd : rd_T36 (cs ++ [⟨xs, z0, z1⟩]) (pre.length : Int) = ⟨xs, z0, z1⟩ := by
                unfold rd_T36
                rw [Int.toNat_natCast, List.getD_eq_getElem?_getD, ← HCL.out]
                simp
              rw [hrd] at g0 g1 g2 hl8 hr8
              rw [Int.toNat_natCast] at g0 g1 g2
              dsimp only at g0 g1 g2 hl8 hr8
              have hlt7 := World.block_lt_of_cell? _ _ g0
              have hwr := fun W (hW : Below w7.heap.size w7 W) => written_any A8 c8 xs z0 z1 W (Kd.C_below hr8 hW) hl8 (by have := hyo.2.1; dsimp only at this; omega) hyo.2.2 (HL.out.old (HO7.out.below hW HO7.out.1)).tab
              have HWR := Aside0.mk hwr
              have hu := Tryd.underlying36
              have hpl : (pre.length : Int) < (pre.length : Int) + 1 := by omega
              have hp0 : (0 : Int) ≤ (pre.length : Int) := by omega
              clear hlb hwr hr8 hl8 hrd
              obtain ⟨bo, hbo⟩ : ∃ bo : ByteArray, bo = ⟨(lineB xs z0 z1 ++ [10]).toArray⟩ := ⟨_, rfl⟩
              rw [← hbo] at HWR
              have HBO := Aside0.mk hbo
              clear hbo
              by_cases hxo : x = bo
              · subst hxo
                have HGOOD : Aside0 (Good cs x.data.toList ⟨xs, z0, z1⟩) := ⟨HLB.out, by rw [HBO.out]; rfl⟩
                gi_wp2_with (first
                  | (refine ⟨trivial, rfl, ?_⟩; gi_at_call 19; refine (CallsIn.inRound l (callsIn_wide.2 hlsx)).mono ?_; rintro e w8 ⟨rfl, hb8⟩; have h80 := (hb8.cell (p := ⟨w.heap.size, 0, none⟩) Y0.out.lt).trans hc70; have h81 := (hb8.cell (p := ⟨w.heap.size + 1, 0, none⟩) Y1.out.lt).trans hc71; have g80 := (hb8.cell hlt7).trans g0; have g81 := (hb8.cell (p := ⟨(ad.add (pre.length * 3)).block, (ad.add (pre.length * 3)).off + 1, none⟩) hlt7).trans g1; have g82 := (hb8.cell (p := ⟨(ad.add (pre.length * 3)).block, (ad.add (pre.length * 3)).off + 2, none⟩) hlt7).trans g2)
                  | (refine ⟨trivial, rfl, ?_⟩; gi_at_call 20; refine (CallsIn.inRound l (callsIn_wide.2 (HWR.out _ hb8))).mono ?_; rintro e w9 ⟨rfl, hb9⟩; have hb79 := Aside0.mk (hb8.trans (hb9.mono hb8.size)); have i80 := (hb9.cell (p := ⟨w.heap.size, 0, none⟩) (World.block_lt_of_cell? _ _ h80)).trans h80; have i81 := (hb9.cell (p := ⟨w.heap.size + 1, 0, none⟩) (World.block_lt_of_cell? _ _ h81)).trans h81; have i82 := (hb79.out.cell (p := ⟨w.heap.size + 1 + 1, 0, none⟩) Y2.out.lt).trans hc72; have f81 : w9.frozen? ⟨w.heap.size + 1, 0, none⟩ = false := Boxed.frozen (show Boxed w9 (w.heap.size + 1) 3 _ from (hb79.out.block _ Y1.out.lt).trans Y1.out))
                  | (refine ⟨trivial, ?_⟩))
                have Z0 := Aside0.mk ((hb79.out.block _ Y0.out.lt).trans Y0.out)
                have Z1 := Aside0.mk ((hb79.out.block _ Y1.out.lt).trans Y1.out)
                have Z2 := Aside0.mk ((hb79.out.block _ Y2.out.lt).trans Y2.out)
                have f80 := Boxed.frozen (show Boxed w9 w.heap.size 24 _ from Z0.out)
                have f82 : w9.frozen? ⟨w.heap.size + 1 + 1, 0, none⟩ = false := Boxed.frozen (show Boxed w9 (w.heap.size + 2) 27 _ from Z2.out)
                have HK9 := Aside0.mk (kept_more HK7.out (KeptO.of_below hb79.out G) (fun _ h _ => h))
                have HO9 := Aside0.mk (HO7.out.below hb79.out HO7.out.1)
                have HR9 := Aside0.mk (Kd.R_below HR7.out hb79.out)
                have e1 : Boxed (w9.setCell ⟨w.heap.size + 1, 0, none⟩ (.int .i64 ((pre.length : Int) + 1))) (w.heap.size + 1) 3 (.int .i64 ((pre.length : Int) + 1)) := Boxed.set _ Z1.out
                have hfar : ∀ k, k ≠ w.heap.size + 1 → (w9.setCell ⟨w.heap.size + 1, 0, none⟩ (.int .i64 ((pre.length : Int) + 1))).heap[k]? = w9.heap[k]? := fun k hk => Below.heap_setCell _ _ _ _ hk
                have hbs := (Below.refl w.heap.size w9).setCell (p := ⟨w.heap.size + 1, 0, none⟩) (by simp) (.int .i64 ((pre.length : Int) + 1))
                refine ⟨fun k => G k ∨ Wb.heap.size ≤ k, ⟨fun k hk => .inl (HG.out k hk), ⟨Nat.le_trans HO9.out.1 hbs.size, fun k hk => (hbs.block k hk).trans (HO9.out.2 k hk)⟩, _, cs ++ [⟨xs, z0, z1⟩], (hfar _ (by omega)).trans Z0.out, Kd.R_step HR9.out (fun k hk _ => hfar k (by omega)), ?_, (hfar _ (by omega)).trans Z2.out, ⟨(listB_ok HLB.out).1, by simp [HCL.out]⟩, ?_⟩, ?_, fun k hk => ?_⟩
                · rw [List.length_append, List.length_singleton]
                  exact e1
                · rw [List.map_append]
                  exact HRE.out.snoc HGOOD.out
                · exact ⟨hbs.os.trans HK9.out.os, hbs.tape.trans HK9.out.tape, hbs.output.trans HK9.out.output, Nat.le_trans HK9.out.size hbs.size, fun k hl hn => (hfar k (fun e => hn (HG.out k (by omega)))).trans (HK9.out.blk k hl hn)⟩
                · rcases hk with hk | hk
                  · exact .inl hk
                  · exact .inr (.inl hk)
              · have hxo2 : ¬ bo = x := fun e => hxo e.symm
                have hxo1 : (bo.toList == x.toList) = false := by
                  rw [ByteArray.toList_eq, ByteArray.toList_eq]
                  exact beq_eq_false_iff_ne.2 (fun e => hxo2 (bytes_eq e))
                have HNO : Aside0 (∀ y, ¬ Good cs x.data.toList y) := ⟨fun y hy => by
                  have hy1 := (HCAND.out y hy).1
                  subst hy1
                  apply hxo
                  rw [HBO.out]
                  exact bytes_eq hy.2⟩
                gi_upto_region 12 with (first
                  | (refine ⟨trivial, rfl, ?_⟩; gi_at_call 19; refine (CallsIn.inRound l (callsIn_wide.2 hlsx)).mono ?_; rintro e w8 ⟨rfl, hb8⟩; have h80 := (hb8.cell (p := ⟨w.heap.size, 0, none⟩) Y0.out.lt).trans hc70; have h81 := (hb8.cell (p := ⟨w.heap.size + 1, 0, none⟩) Y1.out.lt).trans hc71; have g80 := (hb8.cell hlt7).trans g0; have g81 := (hb8.cell (p := ⟨(ad.add (pre.length * 3)).block, (ad.add (pre.length * 3)).off + 1, none⟩) hlt7).trans g1; have g82 := (hb8.cell (p := ⟨(ad.add (pre.length * 3)).block, (ad.add (pre.length * 3)).off + 2, none⟩) hlt7).trans g2)
                  | (refine ⟨trivial, rfl, ?_⟩; gi_at_call 20; refine (CallsIn.inRound l (callsIn_wide.2 (HWR.out _ hb8))).mono ?_; rintro e w9 ⟨rfl, hb9⟩; have hb79 := Aside0.mk (hb8.trans (hb9.mono hb8.size)))
                  | (refine ⟨trivial, ?_⟩))
                have i80 := (hb9.cell (p := ⟨w.heap.size, 0, none⟩) (World.block_lt_of_cell? _ _ h80)).trans h80
                have i81 := (hb9.cell (p := ⟨w.heap.size + 1, 0, none⟩) (World.block_lt_of_cell? _ _ h81)).trans h81
                have i82 := (hb79.out.cell (p := ⟨w.heap.size + 1 + 1, 0, none⟩) Y2.out.lt).trans hc72
                have Z0 := Aside0.mk ((hb79.out.block _ Y0.out.lt).trans Y0.out)
                have Z1 := Aside0.mk ((hb79.out.block _ Y1.out.lt).trans Y1.out)
                have Z2 := Aside0.mk ((hb79.out.block _ Y2.out.lt).trans Y2.out)
                have f80 := Boxed.frozen (show Boxed w9 w.heap.size 24 _ from Z0.out)
                have f81 := Boxed.frozen (show Boxed w9 (w.heap.size + 1) 3 _ from Z1.out)
                have f82 : w9.frozen? ⟨w.heap.size + 1 + 1, 0, none⟩ = false := Boxed.frozen (show Boxed w9 (w.heap.size + 2) 27 _ from Z2.out)
                have HK9 := Aside0.mk (kept_more HK7.out (KeptO.of_below hb79.out G) (fun _ h _ => h))
                have HO9 := Aside0.mk (HO7.out.below hb79.out HO7.out.1)
                have HR9 := Aside0.mk (Kd.R_below HR7.out hb79.out)
                clear hb8 hb9 hlsx h80 h81 g80 g81 g82 g0 g1 g2
                have k1 : (rej1 w.heap.size w9).cell? ⟨w.heap.size + 1, 0, none⟩ = some (.int .i64 pre.length) := (World.cell?_of_block (Below.heap_setCell _ _ _ _ (by show w.heap.size + 1 ≠ w.heap.size; omega))).trans i81
                have k1f : (rej1 w.heap.size w9).frozen? ⟨w.heap.size + 1, 0, none⟩ = false := by rw [rej1, World.frozen?_setCell]; exact f81
                have k2 : (rej2 w.heap.size pre.length w9).cell? ⟨w.heap.size + 1, 0, none⟩ = some (.int .i64 pre.length) := World.cell?_setCell_same' _ _ _ (by rw [k1]; rfl)
                have k2c : (rej2 w.heap.size pre.length w9).cell? ⟨w.heap.size + 1 + 1, 0, none⟩ = some (.int .i64 0) := (World.cell?_of_block (Below.heap_setCell _ _ _ _ (by show w.heap.size + 1 + 1 ≠ w.heap.size + 1; omega))).trans ((World.cell?_of_block (Below.heap_setCell _ _ _ _ (by show w.heap.size + 1 + 1 ≠ w.heap.size; omega))).trans i82)
                have k2f : (rej2 w.heap.size pre.length w9).frozen? ⟨w.heap.size + 1 + 1, 0, none⟩ = false := by rw [rej2, rej1, World.frozen?_setCell, World.frozen?_setCell]; exact f82
                have k3 : (rej3 w.heap.size pre.length w9).cell? ⟨w.heap.size + 1, 0, none⟩ = some (.int .i64 pre.length) := (World.cell?_of_block (Below.heap_setCell _ _ _ _ (by show w.heap.size + 1 ≠ w.heap.size + 1 + 1; omega))).trans k2
                refine startR_ (n := 4) (S := fun w' => w'.cell? ⟨w.heap.size + 1, 0, none⟩ = some (.int .i64 pre.length)) (ds := []) #[false, false, false, false] (by kernel_rfl) (by rintro ⟨_, _, h⟩; exact h) (by kernel_rfl) rfl rfl i81 (fun hHeld => ?_)
                refine take_ (i := 0) (N := some 68) (v := ?_) (a' := ?_) #[true, false, false, false] rfl rfl (by kernel_rfl) (fun _ _ _ h => h) (Or.inl ⟨by rfl, ?_⟩) hHeld ?_ ?_
                rotate_left
                · intro w' s0
                  go_simp
                  with_reducible rfl
                rotate_left
                · simp only [Act.put, List.setIfInBounds_toArray, List.set_cons_zero, List.set_cons_succ]
                  rfl
                refine one_ (i := 1) (N := none) #[true, true, false, false] rfl rfl (by kernel_rfl) (by decide) (fun K hK => ?_)
                go_simp
                change K _ (rej1 w.heap.size w9).drew
                refine hK.out _ _ k1 (fun hHeld => ?_)
                clear hK K
                generalize hr1 : rej1 w.heap.size w9 = W1 at *
                refine one_ (i := 2) (N := none) #[true, true, true, false] rfl rfl (by kernel_rfl) (by decide) (fun K hK => ?_)
                go_simp
                rw [← hr1]
                change K _ (rej2 w.heap.size pre.length w9).drew
                refine hK.out _ _ k2 (fun hHeld => ?_)
                clear hK K
                generalize hr2 : rej2 w.heap.size pre.length w9 = W2 at *
                refine one_ (i := 3) (N := none) #[true, true, true, true] rfl rfl (by kernel_rfl) (by decide) (fun K hK => ?_)
                go_simp
                rw [← hr2]
                change K _ (rej3 w.heap.size pre.length w9).drew
                refine hK.out _ _ k3 (fun hHeld => ?_)
                clear hK K
                generalize hr3 : rej3 w.heap.size pre.length w9 = W3 at *
                refine done_ (by kernel_rfl) ?_
                gi_wp2
                rw [← hr3]
                exact parse_reject HG.out HOLD.out HK9.out Z0.out Z1.out Z2.out HO9.out (HSTOP.out HNO.out) 1
            | false =>
              rw [hlb] at hlsx
              have HNO : Aside0 (∀ y, ¬ Good cs x.data.toList y) := ⟨fun y hy => by
                have := (HCAND.out y hy).1
                subst this
                have := hy.1
                rw [hlb] at this
                cases this⟩
              clear hlb
              gi_upto_region 12 with (first | (refine ⟨trivial, rfl, ?_⟩; gi_at_call 19; refine (CallsIn.inRound l (callsIn_wide.2 hlsx)).mono ?_; rintro e w8 ⟨rfl, hb8⟩) | (refine ⟨trivial, ?_⟩))
              have h81 := (hb8.cell (p := ⟨w.heap.size + 1, 0, none⟩) Y1.out.lt).trans hc71
              have h82 := (hb8.cell (p := ⟨w.heap.size + 1 + 1, 0, none⟩) Y2.out.lt).trans hc72
              have Z0 := Aside0.mk ((hb8.block _ Y0.out.lt).trans Y0.out)
              have Z1 := Aside0.mk ((hb8.block _ Y1.out.lt).trans Y1.out)
              have Z2 := Aside0.mk ((hb8.block _ Y2.out.lt).trans Y2.out)
              have f80 := Boxed.frozen (show Boxed w8 w.heap.size 24 _ from Z0.out)
              have f81 := Boxed.frozen (show Boxed w8 (w.heap.size + 1) 3 _ from Z1.out)
              have f82 : w8.frozen? ⟨w.heap.size + 1 + 1, 0, none⟩ = false := Boxed.frozen (show Boxed w8 (w.heap.size + 2) 27 _ from Z2.out)
              have h80 := Boxed.cell (show Boxed w8 w.heap.size 24 _ from Z0.out)
              have HK8 := Aside0.mk (kept_more HK7.out (KeptO.of_below hb8 G) (fun _ h _ => h))
              have HO8 := Aside0.mk (HO7.out.below hb8 HO7.out.1)
              clear hb8 hlsx
              have k1 : (rej1 w.heap.size w8).cell? ⟨w.heap.size + 1, 0, none⟩ = some (.int .i64 pre.length) := (World.cell?_of_block (Below.heap_setCell _ _ _ _ (by show w.heap.size + 1 ≠ w.heap.size; omega))).trans h81
              have k1f : (rej1 w.heap.size w8).frozen? ⟨w.heap.size + 1, 0, none⟩ = false := by rw [rej1, World.frozen?_setCell]; exact f81
              have k2 : (rej2 w.heap.size pre.length w8).cell? ⟨w.heap.size + 1, 0, none⟩ = some (.int .i64 pre.length) := World.cell?_setCell_same' _ _ _ (by rw [k1]; rfl)
              have k2c : (rej2 w.heap.size pre.length w8).cell? ⟨w.heap.size + 1 + 1, 0, none⟩ = some (.int .i64 0) := (World.cell?_of_block (Below.heap_setCell _ _ _ _ (by show w.heap.size + 1 + 1 ≠ w.heap.size + 1; omega))).trans ((World.cell?_of_block (Below.heap_setCell _ _ _ _ (by show w.heap.size + 1 + 1 ≠ w.heap.size; omega))).trans h82)
              have k2f : (rej2 w.heap.size pre.length w8).frozen? ⟨w.heap.size + 1 + 1, 0, none⟩ = false := by rw [rej2, rej1, World.frozen?_setCell, World.frozen?_setCell]; exact f82
              have k3 : (rej3 w.heap.size pre.length w8).cell? ⟨w.heap.size + 1, 0, none⟩ = some (.int .i64 pre.length) := (World.cell?_of_block (Below.heap_setCell _ _ _ _ (by show w.heap.size + 1 ≠ w.heap.size + 1 + 1; omega))).trans k2
              refine startR_ (n := 4) (S := fun w' => w'.cell? ⟨w.heap.size + 1, 0, none⟩ = some (.int .i64 pre.length)) (ds := []) #[false, false, false, false] (by kernel_rfl) (by rintro ⟨_, _, h⟩; exact h) (by kernel_rfl) rfl rfl h81 (fun hHeld => ?_)
              refine take_ (i := 0) (N := some 68) (v := ?_) (a' := ?_) #[true, false, false, false] rfl rfl (by kernel_rfl) (fun _ _ _ h => h) (Or.inl ⟨by rfl, ?_⟩) hHeld ?_ ?_
              rotate_left
              · intro w' s0
                go_simp
                with_reducible rfl
              rotate_left
              · simp only [Act.put, List.setIfInBounds_toArray, List.set_cons_zero, List.set_cons_succ]
                rfl
              refine one_ (i := 1) (N := none) #[true, true, false, false] rfl rfl (by kernel_rfl) (by decide) (fun K hK => ?_)
              go_simp
              change K _ (rej1 w.heap.size w8).drew
              refine hK.out _ _ k1 (fun hHeld => ?_)
              clear hK K
              generalize hr1 : rej1 w.heap.size w8 = W1 at *
              refine one_ (i := 2) (N := none) #[true, true, true, false] rfl rfl (by kernel_rfl) (by decide) (fun K hK => ?_)
              go_simp
              rw [← hr1]
              change K _ (rej2 w.heap.size pre.length w8).drew
              refine hK.out _ _ k2 (fun hHeld => ?_)
              clear hK K
              generalize hr2 : rej2 w.heap.size pre.length w8 = W2 at *
              refine one_ (i := 3) (N := none) #[true, true, true, true] rfl rfl (by kernel_rfl) (by decide) (fun K hK => ?_)
              go_simp
              rw [← hr2]
              change K _ (rej3 w.heap.size pre.length w8).drew
              refine hK.out _ _ k3 (fun hHeld => ?_)
              clear hK K
              generalize hr3 : rej3 w.heap.size pre.length w8 = W3 at *
              refine done_ (by kernel_rfl) ?_
              gi_wp2
              rw [← hr3]
              exact parse_reject HG.out HOLD.out HK8.out Z0.out Z1.out Z2.out HO8.out (HSTOP.out HNO.out) 1
          · have HNO : Aside0 (∀ y, ¬ Good cs x.data.toList y) := ⟨fun y hy => HBAD.out _ (HCAND.out y hy).2.2⟩
            gi_upto_region 12 with (refine ⟨trivial, ?_⟩)
            have k1 : (rej1 w.heap.size w7).cell? ⟨w.heap.size + 1, 0, none⟩ = some (.int .i64 pre.length) := (World.cell?_of_block (Below.heap_setCell _ _ _ _ (by show w.heap.size + 1 ≠ w.heap.size; omega))).trans hc71
            have k1f : (rej1 w.heap.size w7).frozen? ⟨w.heap.size + 1, 0, none⟩ = false := by rw [rej1, World.frozen?_setCell]; exact hf71
            have k2 : (rej2 w.heap.size pre.length w7).cell? ⟨w.heap.size + 1, 0, none⟩ = some (.int .i64 pre.length) := World.cell?_setCell_same' _ _ _ (by rw [k1]; rfl)
            have k2c : (rej2 w.heap.size pre.length w7).cell? ⟨w.heap.size + 1 + 1, 0, none⟩ = some (.int .i64 0) := (World.cell?_of_block (Below.heap_setCell _ _ _ _ (by show w.heap.size + 1 + 1 ≠ w.heap.size + 1; omega))).trans ((World.cell?_of_block (Below.heap_setCell _ _ _ _ (by show w.heap.size + 1 + 1 ≠ w.heap.size; omega))).trans hc72)
            have k2f : (rej2 w.heap.size pre.length w7).frozen? ⟨w.heap.size + 1 + 1, 0, none⟩ = false := by rw [rej2, rej1, World.frozen?_setCell, World.frozen?_setCell]; exact hf72
            have k3 : (rej3 w.heap.size pre.length w7).cell? ⟨w.heap.size + 1, 0, none⟩ = some (.int .i64 pre.length) := (World.cell?_of_block (Below.heap_setCell _ _ _ _ (by show w.heap.size + 1 ≠ w.heap.size + 1 + 1; omega))).trans k2
            refine startR_ (n := 4) (S := fun w' => w'.cell? ⟨w.heap.size + 1, 0, none⟩ = some (.int .i64 pre.length)) (ds := []) #[false, false, false, false] (by kernel_rfl) (by rintro ⟨_, _, h⟩; exact h) (by kernel_rfl) rfl rfl hc71 (fun hHeld => ?_)
            refine take_ (i := 0) (N := some 68) (v := ?_) (a' := ?_) #[true, false, false, false] rfl rfl (by kernel_rfl) (fun _ _ _ h => h) (Or.inl ⟨by rfl, ?_⟩) hHeld ?_ ?_
            rotate_left
            · intro w' s0
              go_simp
              with_reducible rfl
            rotate_left
            · simp only [Act.put, List.setIfInBounds_toArray, List.set_cons_zero, List.set_cons_succ]
              rfl
            refine one_ (i := 1) (N := none) #[true, true, false, false] rfl rfl (by kernel_rfl) (by decide) (fun K hK => ?_)
            go_simp
            change K _ (rej1 w.heap.size w7).drew
            refine hK.out _ _ k1 (fun hHeld => ?_)
            clear hK K
            generalize hr1 : rej1 w.heap.size w7 = W1 at *
            refine one_ (i := 2) (N := none) #[true, true, true, false] rfl rfl (by kernel_rfl) (by decide) (fun K hK => ?_)
            go_simp
            rw [← hr1]
            change K _ (rej2 w.heap.size pre.length w7).drew
            refine hK.out _ _ k2 (fun hHeld => ?_)
            clear hK K
            generalize hr2 : rej2 w.heap.size pre.length w7 = W2 at *
            refine one_ (i := 3) (N := none) #[true, true, true, true] rfl rfl (by kernel_rfl) (by decide) (fun K hK => ?_)
            go_simp
            rw [← hr2]
            change K _ (rej3 w.heap.size pre.length w7).drew
            refine hK.out _ _ k3 (fun hHeld => ?_)
            clear hK K
            generalize hr3 : rej3 w.heap.size pre.length w7 = W3 at *
            refine done_ (by kernel_rfl) ?_
            gi_wp2
            rw [← hr3]
            exact parse_reject HG.out HOLD.out HK7.out Y0.out Y1.out Y2.out HO7.out (HSTOP.out HNO.out) 1
        · have HNO : Aside0 (∀ y, ¬ Good cs x.data.toList y) := ⟨fun y hy => HBAD.out _ (HCAND.out y hy).2.1⟩
          gi_upto_region 12 with (refine ⟨trivial, ?_⟩)
          have k1 : (rej1 w.heap.size w7).cell? ⟨w.heap.size + 1, 0, none⟩ = some (.int .i64 pre.length) := (World.cell?_of_block (Below.heap_setCell _ _ _ _ (by show w.heap.size + 1 ≠ w.heap.size; omega))).trans hc71
          have k1f : (rej1 w.heap.size w7).frozen? ⟨w.heap.size + 1, 0, none⟩ = false := by rw [rej1, World.frozen?_setCell]; exact hf71
          have k2 : (rej2 w.heap.size pre.length w7).cell? ⟨w.heap.size + 1, 0, none⟩ = some (.int .i64 pre.length) := World.cell?_setCell_same' _ _ _ (by rw [k1]; rfl)
          have k2c : (rej2 w.heap.size pre.length w7).cell? ⟨w.heap.size + 1 + 1, 0, none⟩ = some (.int .i64 0) := (World.cell?_of_block (Below.heap_setCell _ _ _ _ (by show w.heap.size + 1 + 1 ≠ w.heap.size + 1; omega))).trans ((World.cell?_of_block (Below.heap_setCell _ _ _ _ (by show w.heap.size + 1 + 1 ≠ w.heap.size; omega))).trans hc72)
          have k2f : (rej2 w.heap.size pre.length w7).frozen? ⟨w.heap.size + 1 + 1, 0, none⟩ = false := by rw [rej2, rej1, World.frozen?_setCell, World.frozen?_setCell]; exact hf72
          have k3 : (rej3 w.heap.size pre.length w7).cell? ⟨w.heap.size + 1, 0, none⟩ = some (.int .i64 pre.length) := (World.cell?_of_block (Below.heap_setCell _ _ _ _ (by show w.heap.size + 1 ≠ w.heap.size + 1 + 1; omega))).trans k2
          refine startR_ (n := 4) (S := fun w' => w'.cell? ⟨w.heap.size + 1, 0, none⟩ = some (.int .i64 pre.length)) (ds := []) #[false, false, false, false] (by kernel_rfl) (by rintro ⟨_, _, h⟩; exact h) (by kernel_rfl) rfl rfl hc71 (fun hHeld => ?_)
          refine take_ (i := 0) (N := some 68) (v := ?_) (a' := ?_) #[true, false, false, false] rfl rfl (by kernel_rfl) (fun _ _ _ h => h) (Or.inl ⟨by rfl, ?_⟩) hHeld ?_ ?_
          rotate_left
          · intro w' s0
            go_simp
            with_reducible rfl
          rotate_left
          · simp only [Act.put, List.setIfInBounds_toArray, List.set_cons_zero, List.set_cons_succ]
            rfl
          refine one_ (i := 1) (N := none) #[true, true, false, false] rfl rfl (by kernel_rfl) (by decide) (fun K hK => ?_)
          go_simp
          change K _ (rej1 w.heap.size w7).drew
          refine hK.out _ _ k1 (fun hHeld => ?_)
          clear hK K
          generalize hr1 : rej1 w.heap.size w7 = W1 at *
          refine one_ (i := 2) (N := none) #[true, true, true, false] rfl rfl (by kernel_rfl) (by decide) (fun K hK => ?_)
          go_simp
          rw [← hr1]
          change K _ (rej2 w.heap.size pre.length w7).drew
          refine hK.out _ _ k2 (fun hHeld => ?_)
          clear hK K
          generalize hr2 : rej2 w.heap.size pre.length w7 = W2 at *
          refine one_ (i := 3) (N := none) #[true, true, true, true] rfl rfl (by kernel_rfl) (by decide) (fun K hK => ?_)
          go_simp
          rw [← hr2]
          change K _ (rej3 w.heap.size pre.length w7).drew
          refine hK.out _ _ k3 (fun hHeld => ?_)
          clear hK K
          generalize hr3 : rej3 w.heap.size pre.length w7 = W3 at *
          refine done_ (by kernel_rfl) ?_
          gi_wp2
          rw [← hr3]
          exact parse_reject HG.out HOLD.out HK7.out Y0.out Y1.out Y2.out HO7.out (HSTOP.out HNO.out) 1
      · have h3z : (((n + 1 : Nat) : Int) == 3) = false := by simp; omega
        have h3y : (((n : Nat) : Int) + 1 == 3) = false := by simp; omega
        gi_upto_region 7 with (first | (refine ⟨trivial, rfl, ?_⟩; gi_at_call 16; refine (CallsIn.inRound l (callsIn_wide.2 (htr2 _))).mono ?_; rintro e w1 ⟨rfl, hww⟩; have hww2 := hww.symm; clear hww; subst hww2) | (refine ⟨trivial, rfl, ?_⟩; gi_at_call 15; refine (CallsIn.inRound l (callsIn_wide.2 hspl)).mono ?_; rintro e w1 ⟨rfl, rfl⟩))
        have hc1 : (Wb.alloc (.cells (ws.map Value.string).toArray 9)).cell? ⟨w.heap.size + 1, 0, none⟩ = some (.int .i64 pre.length) := (HX1.out.alloc _).cell
        have hc0 : ∃ v0, (Wb.alloc (.cells (ws.map Value.string).toArray 9)).cell? ⟨w.heap.size, 0, none⟩ = some v0 := ⟨_, (HX0.out.alloc _).cell⟩
        have hc2 : (Wb.alloc (.cells (ws.map Value.string).toArray 9)).cell? ⟨w.heap.size + 1 + 1, 0, none⟩ = some (.int .i64 0) := (HX2.out.alloc _).cell
        have hf0 : (Wb.alloc (.cells (ws.map Value.string).toArray 9)).frozen? ⟨w.heap.size, 0, none⟩ = false := (HX0.out.alloc _).frozen
        have hf1 : (Wb.alloc (.cells (ws.map Value.string).toArray 9)).frozen? ⟨w.heap.size + 1, 0, none⟩ = false := (HX1.out.alloc _).frozen
        have hf2 : (Wb.alloc (.cells (ws.map Value.string).toArray 9)).frozen? ⟨w.heap.size + 1 + 1, 0, none⟩ = false := (HX2.out.alloc _).frozen
        obtain ⟨v0, hc0⟩ := hc0
        have Y0 := Aside0.mk (HX0.out.alloc (.cells (ws.map Value.string).toArray 9))
        have Y1 := Aside0.mk (HX1.out.alloc (.cells (ws.map Value.string).toArray 9))
        have Y2 := Aside0.mk (HX2.out.alloc (.cells (ws.map Value.string).toArray 9))
        have hstop : (pre ++ [x]).map (·.data.toList) <+: linesB s.data.toList → ParseD [] 0 (linesB s.data.toList) ([], (pre.length : Int), 2) := fun hp => by
          have := HRE.out.stop (t := x.data.toList) (fun y hy => ?_) (by simpa using hp)
          · simpa using this
          · obtain ⟨y1, y2, _⟩ := hy.words
            apply h3
            rw [HN.out, HTX.out]
            show Lib.count (Lib.trimSuffix x.data.toList [10]) [32] = 2
            rw [y1]; exact y2
        have HSTOP := Aside0.mk hstop
        clear hstop
        generalize Wb.alloc (.cells (ws.map Value.string).toArray 9) = Wc at *
        have k1 : (rej1 w.heap.size Wc).cell? ⟨w.heap.size + 1, 0, none⟩ = some (.int .i64 pre.length) := (World.cell?_of_block (Below.heap_setCell _ _ _ _ (by show w.heap.size + 1 ≠ w.heap.size; omega))).trans hc1
        have k1f : (rej1 w.heap.size Wc).frozen? ⟨w.heap.size + 1, 0, none⟩ = false := by rw [rej1, World.frozen?_setCell]; exact hf1
        have k2 : (rej2 w.heap.size pre.length Wc).cell? ⟨w.heap.size + 1, 0, none⟩ = some (.int .i64 pre.length) := World.cell?_setCell_same' _ _ _ (by rw [k1]; rfl)
        have k2c : (rej2 w.heap.size pre.length Wc).cell? ⟨w.heap.size + 1 + 1, 0, none⟩ = some (.int .i64 0) := (World.cell?_of_block (Below.heap_setCell _ _ _ _ (by show w.heap.size + 1 + 1 ≠ w.heap.size + 1; omega))).trans ((World.cell?_of_block (Below.heap_setCell _ _ _ _ (by show w.heap.size + 1 + 1 ≠ w.heap.size; omega))).trans hc2)
        have k2f : (rej2 w.heap.size pre.length Wc).frozen? ⟨w.heap.size + 1 + 1, 0, none⟩ = false := by rw [rej2, rej1, World.frozen?_setCell, World.frozen?_setCell]; exact hf2
        have k3 : (rej3 w.heap.size pre.length Wc).cell? ⟨w.heap.size + 1, 0, none⟩ = some (.int .i64 pre.length) := (World.cell?_of_block (Below.heap_setCell _ _ _ _ (by show w.heap.size + 1 ≠ w.heap.size + 1 + 1; omega))).trans k2
        refine startR_ (n := 4) (S := fun w' => w'.cell? ⟨w.heap.size + 1, 0, none⟩ = some (.int .i64 pre.length)) (ds := []) #[false, false, false, false] (by kernel_rfl) (by rintro ⟨_, _, h⟩; exact h) (by kernel_rfl) rfl rfl hc1 (fun hHeld => ?_)
        refine take_ (i := 0) (N := some 23) (v := ?_) (a' := ?_) #[true, false, false, false] rfl rfl (by kernel_rfl) (fun _ _ _ h => h) (Or.inl ⟨by rfl, ?_⟩) hHeld ?_ ?_
        rotate_left
        · intro w' s0
          go_simp
          with_reducible rfl
        rotate_left
        · simp only [Act.put, List.setIfInBounds_toArray, List.set_cons_zero, List.set_cons_succ]
          rfl
        refine one_ (i := 1) (N := none) #[true, true, false, false] rfl rfl (by kernel_rfl) (by decide) (fun K hK => ?_)
        go_simp
        change K _ (rej1 w.heap.size Wc).drew
        refine hK.out _ _ k1 (fun hHeld => ?_)
        clear hK K
        generalize hr1 : rej1 w.heap.size Wc = W1 at *
        refine one_ (i := 2) (N := none) #[true, true, true, false] rfl rfl (by kernel_rfl) (by decide) (fun K hK => ?_)
        go_simp
        rw [← hr1]
        change K _ (rej2 w.heap.size pre.length Wc).drew
        refine hK.out _ _ k2 (fun hHeld => ?_)
        clear hK K
        generalize hr2 : rej2 w.heap.size pre.length Wc = W2 at *
        refine one_ (i := 3) (N := none) #[true, true, true, true] rfl rfl (by kernel_rfl) (by decide) (fun K hK => ?_)
        go_simp
        rw [← hr2]
        change K _ (rej3 w.heap.size pre.length Wc).drew
        refine hK.out _ _ k3 (fun hHeld => ?_)
        clear hK K
        generalize hr3 : rej3 w.heap.size pre.length Wc = W3 at *
        refine done_ (by kernel_rfl) ?_
        gi_wp2
        rw [← hr3]
        exact parse_reject HG.out HOLD.out (KeptO.of_below HB1.out G) Y0.out Y1.out Y2.out (HOLD.out.below HB1.out HOLD.out.1) HSTOP.out 1
    case done =>
      intro D xs G W hD hK hGD hS hI hkept
      obtain ⟨hG, hold, v, cs, hx0, hR, hx1, hx2, hl, hreach⟩ := hI
      have hDs : w.heap.size + 4 ≤ D := by have := HSZ.out; omega
      have hc0 := hx0.cell
      have hf0 := hx0.frozen
      have hc1 := hx1.cell
      have hf1 := hx1.frozen
      have hc2 := hx2.cell
      have hf2 := hx2.frozen
      have hp : ParseD [] 0 (linesB s.data.toList) (cs, 0, 0) := by
        have := hreach.done
        rwa [show xs.map (·.data.toList) = linesB s.data.toList from hS] at this
      have hb : Below w.heap.size w W := ⟨hkept.os.trans HB0.out.os, hkept.tape.trans HB0.out.tape, hkept.output.trans HB0.out.output, hold.1, hold.2⟩
      obtain ⟨A, c, ev⟩ := Kd.R_slice hR
      subst ev
      have HR := Aside0.mk hR
      have HP := Aside0.mk hp
      have HB := Aside0.mk hb
      have HK := Aside0.mk hK
      have HDS := Aside0.mk hDs
      have HGD := Aside0.mk hGD
      clear hG hold hR hreach hp hb hkept hK hDs hD hS hGD hl
      have e0 : Boxed (((W.setCell ⟨w.heap.size, 0, none⟩ (.slice A cs.length c)).setCell ⟨w.heap.size + 1, 0, none⟩ (.int .i64 0)).setCell ⟨w.heap.size + 1 + 1, 0, none⟩ (.int .i64 0)) w.heap.size 24 (.slice A cs.length c) :=
        (Below.heap_setCell _ _ _ _ (by show w.heap.size ≠ w.heap.size + 1 + 1; omega)).trans ((Below.heap_setCell _ _ _ _ (by show w.heap.size ≠ w.heap.size + 1; omega)).trans (Boxed.set _ hx0))
      have e1 : Boxed (((W.setCell ⟨w.heap.size, 0, none⟩ (.slice A cs.length c)).setCell ⟨w.heap.size + 1, 0, none⟩ (.int .i64 0)).setCell ⟨w.heap.size + 1 + 1, 0, none⟩ (.int .i64 0)) (w.heap.size + 1) 3 (.int .i64 0) :=
        (Below.heap_setCell _ _ _ _ (by show w.heap.size + 1 ≠ w.heap.size + 1 + 1; omega)).trans (Boxed.set _ ((Below.heap_setCell _ _ _ _ (by show w.heap.size + 1 ≠ w.heap.size; omega)).trans hx1))
      have e2 : Boxed (((W.setCell ⟨w.heap.size, 0, none⟩ (.slice A cs.length c)).setCell ⟨w.heap.size + 1, 0, none⟩ (.int .i64 0)).setCell ⟨w.heap.size + 1 + 1, 0, none⟩ (.int .i64 0)) (w.heap.size + 2) 27 (.int .i64 0) :=
        Boxed.set _ ((Below.heap_setCell _ _ _ _ (by show w.heap.size + 2 ≠ w.heap.size + 1; omega)).trans ((Below.heap_setCell _ _ _ _ (by show w.heap.size + 2 ≠ w.heap.size; omega)).trans hx2))
      have hfar : ∀ k, w.heap.size + 3 ≤ k → (((W.setCell ⟨w.heap.size, 0, none⟩ (.slice A cs.length c)).setCell ⟨w.heap.size + 1, 0, none⟩ (.int .i64 0)).setCell ⟨w.heap.size + 1 + 1, 0, none⟩ (.int .i64 0)).heap[k]? = W.heap[k]? := fun k hk =>
        (Below.heap_setCell _ _ _ _ (by show k ≠ w.heap.size + 1 + 1; omega)).trans ((Below.heap_setCell _ _ _ _ (by show k ≠ w.heap.size + 1; omega)).trans (Below.heap_setCell _ _ _ _ (by show k ≠ w.heap.size; omega)))
      have hbl := ((HB.out.setCell (p := ⟨w.heap.size, 0, none⟩) (Nat.le_refl _) (.slice A cs.length c)).setCell (p := ⟨w.heap.size + 1, 0, none⟩) (by simp) (.int .i64 0)).setCell (p := ⟨w.heap.size + 1 + 1, 0, none⟩) (by show w.heap.size ≤ w.heap.size + 1 + 1; omega) (.int .i64 0)
      have E0 := Aside0.mk e0
      have E1 := Aside0.mk e1
      have E2 := Aside0.mk e2
      have HFAR := Aside0.mk hfar
      have HBL := Aside0.mk hbl
      clear e0 e1 e2 hfar hbl hx0 hx1 hx2
      dsimp only
      gi_wp2
      exact parse_end rfl rfl rfl HDS.out ((HFAR.out D (by have := HDS.out; omega)).trans HK.out) E0.out E1.out E2.out (Kd.R_mono (Kd.R_step HR.out (fun k (hk : G k ∧ w.heap.size + 3 ≤ k) _ => HFAR.out k hk.2)) (fun k (hk : G k ∧ w.heap.size + 3 ≤ k) e => HGD.out (e ▸ hk.1))) (by rw [if_neg hs]; exact HP.out) HBL.out
    case stop =>
      intro D c pre G W hD hK hGD hS hI hkept
      obtain ⟨hG, hold, rfl, r, hx0, hx1, hx2, hr, hp⟩ := hI
      have hDs : w.heap.size + 4 ≤ D := by have := HSZ.out; omega
      have hb : Below w.heap.size w W := ⟨hkept.os.trans HB0.out.os, hkept.tape.trans HB0.out.tape, hkept.output.trans HB0.out.output, hold.1, hold.2⟩
      have HX0 := Aside0.mk hx0
      have HX1 := Aside0.mk hx1
      have HX2 := Aside0.mk hx2
      have HP := Aside0.mk (hp hS)
      have HB := Aside0.mk hb
      have HK := Aside0.mk hK
      have HDS := Aside0.mk hDs
      have HR := Aside0.mk hr
      clear hG hold hx0 hx1 hx2 hr hp hb hkept hK hDs hD hS hGD
      dsimp only
      gi_wp2
      exact parse_end rfl rfl rfl HDS.out HK.out HX0.out HX1.out HX2.out (by rw [HR.out]; exact Kd.R_nil _ _ _ _ _) (by rw [if_neg hs]; exact HP.out) HB.out
end Go.Proofs.YthmfgbjimdondaaDoor.P
/- What the printed functions of the reference and of the law answer. -/
namespace Go.Proofs.YthmfgbjimdondaaDoor.P
open Go.RowKit Go.Proofs.YthmfgbjimdondaaDoorW.PrintWords Go.Proofs.YthmfgbjimdondaaDoorW.PrintLast Go.Proofs.YthmfgbjimdondaaDoorW.PrintMore
set_option linter.unusedVariables false
set_option linter.unusedSimpArgs false

theorem w64 {x : Int} (h : -9223372036854775808 ≤ x) (h2 : x ≤ 9223372036854775807) : wrap64 x = x := by unfold wrap64; omega
theorem rd_nat (l : List Int) (i : Nat) : rd l (i : Int) = l.getD i 0 := by unfold rd; rw [Int.toNat_natCast]
theorem drop_getD {α : Type} (l : List α) (z : α) (i : Nat) (h : i < l.length) : l.drop i = l.getD i z :: l.drop (i + 1) := by
  rw [List.drop_eq_getElem_cons h]; simp [List.getD_eq_getElem?_getD, List.getElem?_eq_getElem h]
theorem ref_in (a lo hi : Int) : lightsieveref07_in.f a lo hi = some (inB a lo hi) := by
  unfold lightsieveref07_in.f inB
  by_cases h : lo ≤ a <;> simp [h]

theorem refRow_l0 (x0 : List Int) (n : Int) (r : List Int) (hl : r.length ≤ 9223372036854775807) : ∀ d i, i + d = r.length →
    Ev (fun k => lightsieveref07_validRow.l0 k x0 n r (r.length : Int) (i : Int)) ((r.drop i).all (fun x => inB x (-1) 1) && ((x0.length : Int) == n)) := by
  intro d
  induction d with
  | zero =>
    intro i h
    have e : r.drop i = [] := List.drop_of_length_le (by omega)
    refine Ev.step (f := fun _ => some ((x0.length : Int) == n)) (fun k => ?_) ?_
    · simp only [lightsieveref07_validRow.l0]
      rw [if_neg (by omega)]
    · rw [e]; exact Ev.now _
  | succ d ih =>
    intro i h
    have e := drop_getD r 0 i (by omega)
    rw [e]
    simp only [List.all_cons]
    cases hb : inB (r.getD i 0) (-1) 1 with
    | true =>
      have := ih (i + 1) (by omega)
      refine Ev.step (f := fun k => lightsieveref07_validRow.l0 k x0 n r (r.length : Int) ((i + 1 : Nat) : Int)) (fun k => ?_) (by simpa using this)
      simp only [lightsieveref07_validRow.l0]
      rw [if_pos (by omega), if_pos (by omega), if_pos (by omega), rd_nat, ref_in, hb, w64 (by omega) (by omega)]
      rfl
    | false =>
      refine Ev.step (f := fun _ => some false) (fun k => ?_) (Ev.now _)
      simp only [lightsieveref07_validRow.l0]
      rw [if_pos (by omega), if_pos (by omega), if_pos (by omega), rd_nat, ref_in, hb]
      rfl
theorem refRow (r : List Int) (n : Int) (hl : r.length ≤ 9223372036854775807) : Ev (fun k => lightsieveref07_validRow.f k r n) (rowB n r) := by
  have h := refRow_l0 r n r hl r.length 0 (by omega)
  have e : ((r.drop 0).all (fun x => inB x (-1) 1) && ((r.length : Int) == n)) = rowB n r := by
    unfold rowB
    rw [List.drop_zero, Bool.and_comm]
    rfl
  rw [e] at h
  exact h
theorem refCell (r : List Int) (lo hi n : Int) (hl : r.length ≤ 9223372036854775807) : Ev (fun k => lightsieveref07_validCell.f k r lo hi n) (cellB n r lo hi) := by
  unfold lightsieveref07_validCell.f cellB
  refine Ev.bind (refRow r n hl) ?_
  cases rowB n r
  · exact Ev.now _
  · unfold inB
    by_cases h1 : (-100) ≤ lo
    · by_cases h2 : lo ≤ hi
      · simp [h1, h2]; exact Ev.now _
      · simp [h1, h2]; exact Ev.now _
    · simp [h1]; exact Ev.now _
theorem refWritten_l0 (c : List S36) (hl : c.length ≤ 9223372036854775807) (hr : ∀ x ∈ c, x.f0.length ≤ 9223372036854775807) : ∀ d i, i + d = c.length →
    Ev (fun k => lightsieveref07_written.l0 k c c (c.length : Int) (i : Int)) ((c.drop i).all (fun x => inB x.f0.length 1 8 && cellB ((c.getD 0 z36).f0.length) x.f0 x.f1 x.f2) && decide (c.length ≤ 30)) := by
  intro d
  induction d with
  | zero =>
    intro i h
    have e : c.drop i = [] := List.drop_of_length_le (by omega)
    refine Ev.step (f := fun _ => some (decide (c.length ≤ 30))) (fun k => ?_) ?_
    · simp only [lightsieveref07_written.l0]
      rw [if_neg (by omega)]
      congr 1
      exact decide_eq_decide.2 (by omega)
    · rw [e]; exact Ev.now _
  | succ d ih =>
    intro i h
    have e := drop_getD c z36 i (by omega)
    have hm := mem_getD c z36 i (by omega)
    have hrd : rd_T36 c (i : Int) = c.getD i z36 := by unfold rd_T36; rw [Int.toNat_natCast]
    have hrd0 : rd_T36 c 0 = c.getD 0 z36 := rfl
    have hcell := refCell (c.getD i z36).f0 (c.getD i z36).f1 (c.getD i z36).f2 ((c.getD 0 z36).f0.length : Int) (hr _ hm)
    rw [e]
    simp only [List.all_cons]
    cases hb : inB (c.getD i z36).f0.length 1 8 with
    | true =>
      refine Ev.step (f := fun k => (lightsieveref07_validCell.f k (c.getD i z36).f0 (c.getD i z36).f1 (c.getD i z36).f2 ((c.getD 0 z36).f0.length : Int)).bind fun t => if t = true then lightsieveref07_written.l0 k c c (c.length : Int) ((i + 1 : Nat) : Int) else some false) (fun k => ?_) (Ev.bind hcell ?_)
      · simp only [lightsieveref07_written.l0]
        rw [if_pos (by omega), if_pos (by omega), if_pos (by omega), hrd, ref_in, hb, w64 (by omega) (by omega), hrd0]
        simp only [Option.bind_some, if_true]
        rw [if_pos (by omega)]
        rfl
      · cases cellB ((c.getD 0 z36).f0.length) (c.getD i z36).f0 (c.getD i z36).f1 (c.getD i z36).f2 with
        | true => simpa using ih (i + 1) (by omega)
        | false => exact Ev.now _
    | false =>
      refine Ev.step (f := fun _ => some false) (fun k => ?_) (Ev.now _)
      simp only [lightsieveref07_written.l0]
      rw [if_pos (by omega), if_pos (by omega), if_pos (by omega), hrd, ref_in, hb]
      rfl
theorem refWritten (c : List S36) (hl : c.length ≤ 9223372036854775807) (hr : ∀ x ∈ c, x.f0.length ≤ 9223372036854775807) : Ev (fun k => lightsieveref07_written.f k c) (listB c) := by
  have h := refWritten_l0 c hl hr c.length 0 (by omega)
  have e : ((c.drop 0).all (fun x => inB x.f0.length 1 8 && cellB ((c.getD 0 z36).f0.length) x.f0 x.f1 x.f2) && decide (c.length ≤ 30)) = listB c := by
    unfold listB writB
    rw [List.drop_zero, Bool.and_comm]
  rw [e] at h
  exact h
/-! ### Equal cells -/
theorem sameCell_l0 (r : List Int) (a b c d : Int) (hl : r.length ≤ 9223372036854775807) : ∀ e i, i + e = r.length →
    Ev (fun k => lightsieveref07_SameCell.l0 k (r.length : Int) (i : Int) r a b r c d) true := by
  intro e
  induction e with
  | zero =>
    intro i h
    refine Ev.step (f := fun _ => some true) (fun k => ?_) (Ev.now _)
    simp only [lightsieveref07_SameCell.l0]
    rw [if_neg (by omega)]
  | succ e ih =>
    intro i h
    refine Ev.step (f := fun k => lightsieveref07_SameCell.l0 k (r.length : Int) ((i + 1 : Nat) : Int) r a b r c d) (fun k => ?_) (ih (i + 1) (by omega))
    simp only [lightsieveref07_SameCell.l0]
    rw [if_pos (by omega), if_pos (by omega), if_pos (by omega), if_pos (by omega), if_pos trivial, w64 (by omega) (by omega)]
    rfl
theorem sameCell (r : List Int) (a b : Int) (hl : r.length ≤ 9223372036854775807) : Ev (fun k => lightsieveref07_SameCell.f k r a b r a b) true := by
  unfold lightsieveref07_SameCell.f
  have h := sameCell_l0 r a b a b hl r.length 0 (by omega)
  refine Ev.step (f := fun k => lightsieveref07_SameCell.l0 k (r.length : Int) 0 r a b r a b) (fun k => ?_) h
  rw [if_pos rfl, if_pos rfl]
  simp only [lightsieveref07_SameCell.j0]
  rw [if_neg (by simp)]
theorem sameCells_l0 (c : List S36) (hl : c.length ≤ 9223372036854775807) (hr : ∀ x ∈ c, x.f0.length ≤ 9223372036854775807) : ∀ d i, i + d = c.length →
    Ev (fun k => lightsieveref07_SameCells.l0 k c c (c.length : Int) (i : Int)) true := by
  intro d
  induction d with
  | zero =>
    intro i h
    refine Ev.step (f := fun _ => some true) (fun k => ?_) (Ev.now _)
    simp only [lightsieveref07_SameCells.l0]
    rw [if_neg (by omega)]
  | succ d ih =>
    intro i h
    have hm := mem_getD c z36 i (by omega)
    have hrd : rd_T36 c (i : Int) = c.getD i z36 := by unfold rd_T36; rw [Int.toNat_natCast]
    refine Ev.step (f := fun k => (lightsieveref07_SameCell.f k (c.getD i z36).f0 (c.getD i z36).f1 (c.getD i z36).f2 (c.getD i z36).f0 (c.getD i z36).f1 (c.getD i z36).f2).bind fun t => if t = true then lightsieveref07_SameCells.l0 k c c (c.length : Int) ((i + 1 : Nat) : Int) else some false) (fun k => ?_) (Ev.bind (sameCell _ _ _ (hr _ hm)) (by simpa using ih (i + 1) (by omega)))
    simp only [lightsieveref07_SameCells.l0]
    rw [if_pos (by omega), if_pos (by omega), if_pos (by omega), if_pos (by omega), hrd, w64 (by omega) (by omega)]
    rfl
theorem sameCells (c : List S36) (hl : c.length ≤ 9223372036854775807) (hr : ∀ x ∈ c, x.f0.length ≤ 9223372036854775807) : Ev (fun k => lightsieveref07_SameCells.f k c c) true := by
  unfold lightsieveref07_SameCells.f
  refine Ev.congr (fun k => if_pos rfl) (sameCells_l0 c hl hr c.length 0 (by omega))
/-! ### The law's bound on cells -/
def fitB (c : List S36) : Bool := (c.all fun x => decide (x.f0.length ≤ 20)) && decide (c.length ≤ 35)
theorem fit_l0 (c : List S36) (hl : c.length ≤ 9223372036854775807) : ∀ d i, i + d = c.length →
    Ev (fun k => lightsievelaw07_fit.l0 k c c (c.length : Int) (i : Int)) ((c.drop i).all (fun x => decide (x.f0.length ≤ 20)) && decide (c.length ≤ 35)) := by
  intro d
  induction d with
  | zero =>
    intro i h
    have e : c.drop i = [] := List.drop_of_length_le (by omega)
    refine Ev.step (f := fun _ => some (decide (c.length ≤ 35))) (fun k => ?_) ?_
    · simp only [lightsievelaw07_fit.l0]
      rw [if_neg (by omega)]
      congr 1
      exact decide_eq_decide.2 (by omega)
    · rw [e]; exact Ev.now _
  | succ d ih =>
    intro i h
    have e := drop_getD c z36 i (by omega)
    have hrd : rd_T36 c (i : Int) = c.getD i z36 := by unfold rd_T36; rw [Int.toNat_natCast]
    rw [e]
    simp only [List.all_cons]
    by_cases hb : (c.getD i z36).f0.length ≤ 20
    · have := ih (i + 1) (by omega)
      refine Ev.step (f := fun k => lightsievelaw07_fit.l0 k c c (c.length : Int) ((i + 1 : Nat) : Int)) (fun k => ?_) (by rw [decide_eq_true hb, Bool.true_and]; exact this)
      simp only [lightsievelaw07_fit.l0]
      rw [if_pos (by omega), if_pos (by omega), if_pos (by omega), hrd, if_neg (by omega), w64 (by omega) (by omega)]
      rfl
    · refine Ev.step (f := fun _ => some false) (fun k => ?_) (by rw [decide_eq_false hb, Bool.false_and, Bool.false_and]; exact Ev.now _)
      simp only [lightsievelaw07_fit.l0]
      rw [if_pos (by omega), if_pos (by omega), if_pos (by omega), hrd, if_pos (by omega)]
theorem fit_ev (c : List S36) (hl : c.length ≤ 9223372036854775807) : Ev (fun k => lightsievelaw07_fit.f k c) (fitB c) := by
  have h := fit_l0 c hl c.length 0 (by omega)
  rw [List.drop_zero] at h
  exact h
end Go.Proofs.YthmfgbjimdondaaDoor.P
/- The reference's Parse. -/
namespace Go.Proofs.YthmfgbjimdondaaDoor.P
open Go.RowKit Go.Proofs.YthmfgbjimdondaaDoorW.PrintWords Go.Proofs.YthmfgbjimdondaaDoorW.PrintLast Go.Proofs.YthmfgbjimdondaaDoorW.PrintMore
set_option linter.unusedVariables false
set_option linter.unusedSimpArgs false

theorem cut_hit (a c : List UInt8) (h : ∀ b ∈ a, b ≠ 10) : Lib.cut (a ++ 10 :: c) [10] = (a, c, true) := by
  have i1 : Lib.index (a ++ 10 :: c) [10] = (a.length : Int) := by rw [Lib.index_one]; exact idx_app 10 _ a h
  unfold Lib.cut
  rw [i1, if_pos (by omega), Int.toNat_natCast]
  simp [List.drop_append]
theorem cut_none (a : List UInt8) (h : ∀ b ∈ a, b ≠ 10) : Lib.cut a [10] = (a, [], false) := by
  have i1 : Lib.index a [10] = -1 := by rw [Lib.index_one]; exact idx_none 10 a h
  unfold Lib.cut
  rw [i1, if_neg (by omega)]
/-- What Cut tells of a text that is not empty. -/
theorem cut_any (s : ByteArray) (h : s.size ≠ 0) : ∃ (tx rs : ByteArray) (en : Bool), Lib.cut s.data.toList [10] = (tx.data.toList, rs.data.toList, en) ∧ tx.size ≤ s.size ∧ rs.size ≤ s.size ∧
    ((en = true ∧ linesB s.data.toList = (tx.data.toList ++ [10]) :: linesB rs.data.toList) ∨ (en = false ∧ rs.size = 0 ∧ linesB s.data.toList = [s.data.toList] ∧ ∀ b ∈ s.data.toList, b ≠ 10)) := by
  have hne : s.data.toList ≠ [] := fun e => h (by rw [show s.size = s.data.toList.length from rfl, e]; rfl)
  have hsz : s.size = s.data.toList.length := rfl
  rcases cut_cases s.data.toList with ⟨_, h2⟩ | ⟨a, c, hac, h2, _⟩
  · exact ⟨s, ⟨#[]⟩, false, cut_none _ h2, Nat.le_refl _, Nat.zero_le _, .inr ⟨rfl, rfl, linesB_none _ h2 hne, h2⟩⟩
  · refine ⟨⟨a.toArray⟩, ⟨c.toArray⟩, true, by rw [hac]; exact cut_hit a c h2, ?_, ?_, .inl ⟨rfl, by rw [hac]; exact linesB_hit c a h2⟩⟩
    · rw [hsz, hac]; show a.length ≤ _; simp
    · rw [hsz, hac]; show c.length ≤ _; simp; omega
/-- A new block of strings is a row of its own. -/
theorem own_strs (W : World) (base : Nat) (l : List ByteArray) (hb : base ≤ W.heap.size) (hl : l.length ≤ 1000000) :
    (W.alloc (.cells (l.map Value.string).toArray 9)).ownsRow base 9 1 (.slice (some ⟨W.heap.size, 0, none⟩) l.length l.length) l.length (l.map Value.string) := by
  refine ⟨by simp, .inr ⟨W.heap.size, l.length, (l.map Value.string).toArray, rfl, hb, heap_alloc_new W _, Nat.le_refl _, by unfold maxLen; omega, by simp, ?_⟩⟩
  rw [List.take_of_length_le (by simp)]
theorem infoStr : (Tryd.prog.info? 9).map (fun i => (i.zero, i.size, i.bytes)) = some (some (.string ByteArray.empty), 1, 16) := by kernel_rfl
theorem own_cell {w : World} {base n : Nat} {g cap : Nat} {xs : List Value} {e : TypeId} (h : w.ownsRow base e 1 (.slice (some ⟨g, 0, none⟩) n cap) n xs) (j : Nat) (v : Value) (hj : xs[j]? = some v) : w.cell? ⟨g, j, none⟩ = some v := by
  obtain ⟨hl, h⟩ := h
  rcases h with ⟨h, _⟩ | ⟨g', cap', cur, he, _, hb, _, _, hs, ht⟩
  · cases h
  · simp only [Value.slice.injEq, Option.some.injEq, Addr.mk.injEq, and_true, true_and] at he
    obtain ⟨rfl, rfl⟩ := he
    have hjl : j < xs.length := (List.getElem?_eq_some_iff.1 hj).1
    rw [← ht, List.getElem?_take_of_lt (by omega)] at hj
    simp only [World.cell?, hb]
    simpa using hj
theorem cells_len {w : World} {A : Option Addr} {xs : List S36} (h : Kd.C k36 w A xs.length xs) : ∀ x ∈ xs, x.f0.length ≤ 9223372036854775807 := by
  intro x hx
  obtain ⟨i, hi, rfl⟩ := List.getElem_of_mem hx
  obtain ⟨ad, A0, c0, _, _, _, _, _, hr⟩ := at_T36 h (i : Int) (by omega) (by omega)
  have e : rd_T36 xs (i : Int) = xs[i] := by
    unfold rd_T36
    rw [Int.toNat_natCast, List.getD_eq_getElem?_getD, List.getElem?_eq_getElem hi]; rfl
  rw [e] at hr
  exact hr.2.1
theorem sgnR_cases (b : UInt8) : (b.toNat = 43 ∧ sgnR b = 1) ∨ (b.toNat = 46 ∧ sgnR b = 0) ∨ (b.toNat = 45 ∧ sgnR b = -1) ∨ (b.toNat ≠ 43 ∧ b.toNat ≠ 46 ∧ b.toNat ≠ 45 ∧ sgnR b = 2) := by
  have h43 : b = 43 ↔ b.toNat = 43 := ⟨fun h => by rw [h]; rfl, fun h => UInt8.toNat_inj.1 h⟩
  have h46 : b = 46 ↔ b.toNat = 46 := ⟨fun h => by rw [h]; rfl, fun h => UInt8.toNat_inj.1 h⟩
  have h45 : b = 45 ↔ b.toNat = 45 := ⟨fun h => by rw [h]; rfl, fun h => UInt8.toNat_inj.1 h⟩
  unfold sgnR
  by_cases h1 : b = 43
  · exact .inl ⟨h43.1 h1, if_pos h1⟩
  · by_cases h2 : b = 46
    · exact .inr (.inl ⟨h46.1 h2, by rw [if_neg h1, if_pos h2]⟩)
    · by_cases h3 : b = 45
      · exact .inr (.inr (.inl ⟨h45.1 h3, by rw [if_neg h1, if_neg h2, if_pos h3]⟩))
      · exact .inr (.inr (.inr ⟨fun e => h1 (h43.2 e), fun e => h2 (h46.2 e), fun e => h3 (h45.2 e), by rw [if_neg h1, if_neg h2, if_neg h3]⟩))
set_option maxHeartbeats 8000000 in
set_option maxRecDepth 100000 in
theorem refParse_any (s : ByteArray) (w : World) (hL : Lays w) :
    Calls Tryd.prog 7 #[.string s] w (ParsePost s w) := by
  have HL := Aside0.mk hL
  clear hL
  go_enter Tryd.func7, Tryd.ntmps7
  by_cases hs : 65536 < s.size
  · have hsz : (65536 : Int) < (s.size : Int) := by omega
    go_wp2_with fail
    refine bodyPost_ret (results_tmp3 rfl _ _ _) rfl ?_
    exact ⟨_, ([], 0, 3), rfl, Kd.R_nil _ _ _ _ _, by rw [if_pos hs], Below.refl _ _⟩
  · have hsz : ¬ (65536 : Int) < (s.size : Int) := by omega
    have HSZ := Aside0.mk hs
    go_wp2_with fail
    go_loopg [0, 2, 5] (linesB s.data.toList).length (fun gg s0 s2 s5 wr => ∃ (sb : ByteArray) (cs : List S36) (ts : List (List UInt8)), (linesB sb.data.toList).length ≤ gg ∧ s0 = .string sb ∧ s5 = .int .i64 ts.length ∧ sb.size ≤ 65536 ∧ Aside0 (Kd.R k36 36 wr w.heap.size (fun _ => True) s2 cs) ∧ Aside0 (Below w.heap.size w wr) ∧ Aside0 (Reach cs ts ∧ ts ++ linesB sb.data.toList = linesB s.data.toList) ∧ cs.length ≤ 30 ∧ Aside0 (ts.length = cs.length))
    case atStart => exact ⟨s, [], [], Nat.le_refl _, rfl, rfl, by omega, ⟨Kd.R_nil _ _ _ _ _⟩, ⟨Below.refl _ _⟩, ⟨Reach.nil, rfl⟩, Nat.zero_le _, ⟨rfl⟩⟩
    case round =>
      obtain ⟨sb, cs, ts, hg, rfl, rfl, hsb, HR, HB, HRE, hcl, HTL⟩ := hrel
      have htb : ts.length ≤ 30 := by rw [HTL.out]; exact hcl
      obtain ⟨A, c, ev⟩ := Kd.R_slice HR.out
      subst ev
      by_cases h0 : sb.size = 0
      · have he : sb.toList = [] := by rw [ByteArray.toList_eq]; exact List.eq_nil_of_length_eq_zero h0
        have HPD : Aside0 (ParseD [] 0 (linesB s.data.toList) (cs, 0, 0)) := ⟨by
          have h1 := HRE.out.2
          rw [← ByteArray.toList_eq, he] at h1
          have : ts = linesB s.data.toList := by simpa [linesB] using h1
          rw [← this]
          exact HRE.out.1.done⟩
        go_wp2_with fail
        refine bodyPost_ret (results_tmp3 rfl _ _ _) rfl ?_
        exact ⟨_, (cs, 0, 0), rfl, Kd.R_lower HR.out (Nat.zero_le _), by rw [if_neg HSZ.out]; exact HPD.out, HB.out⟩
      · obtain ⟨tx, rs, en, hcut, htl, hrl, hcase⟩ := cut_any sb h0
        have HRL : Aside0 (rs.size ≤ 65536) := ⟨by omega⟩
        have hne : (sb.toList == []) = false := by
          rw [ByteArray.toList_eq]
          exact beq_eq_false_iff_ne.2 (fun e => h0 (by rw [show sb.size = sb.data.toList.length from rfl, e]; rfl))
        have hnn : ¬ sb.toList = [] := by
          rw [ByteArray.toList_eq]
          exact fun e => h0 (by rw [show sb.size = sb.data.toList.length from rfl, e]; rfl)
        have HNE := Aside0.mk hnn
        have hold : Old w wr := Old.of_below HB.out
        obtain ⟨m, hm⟩ := (HL.out.old hold).mx
        have hcutc : ∀ W, W.cell? ⟨2, 0, none⟩ = some (.int .i64 m) → Calls Tryd.prog 21 #[.string sb, .string ⟨#[10]⟩] W fun e w' => e = .returned (.tuple #[.string tx, .string rs, .bool en]) ∧ ∃ n, w' = W.drewN n := fun W hW => by
          have := Tryd.strings_Cut sb ⟨#[10]⟩ m W (by omega) hW
          rw [show (ByteArray.mk #[10]).data.toList = [10] from rfl, hcut] at this
          exact this
        have hspl : ∀ W, W.cell? ⟨2, 0, none⟩ = some (.int .i64 m) → Calls Tryd.prog 15 #[.string tx, .string ⟨#[32]⟩] W fun e w' => ∃ ws : List ByteArray, e = .returned (.slice (some ⟨W.heap.size, 0, none⟩) ws.length ws.length) ∧ w' = W.alloc (.cells (ws.map Value.string).toArray 9) ∧ 1 ≤ ws.length ∧ ws.length ≤ 100001 ∧ ws = Lib.splitB ⟨#[32]⟩ 0 (Lib.countB tx ⟨#[32]⟩) tx := fun W hW => by
          have h1 := Tryd.strings_Split tx ⟨#[32]⟩ m W (by omega) hW (by decide)
          have hl := Lib.splitB_all ⟨#[32]⟩ (by decide) 0 _ tx rfl
          have hcb : Lib.countB tx ⟨#[32]⟩ ≤ tx.size := Lib.countB_le ⟨#[32]⟩ (by decide) tx.size tx (Nat.le_refl _)
          refine h1.mono ?_
          rintro e w' ⟨rfl, rfl⟩
          exact ⟨_, by rw [hl], rfl, by rw [hl]; omega, by rw [hl]; omega, rfl⟩
        have HCUT := Aside0.mk hcutc
        have HSPL := Aside0.mk hspl
        have HCASE := Aside0.mk hcase
        have HM : Aside0 (wr.cell? ⟨2, 0, none⟩ = some (.int .i64 m)) := ⟨hm⟩
        have HMB : Aside0 (2 < wr.heap.size) := ⟨World.block_lt_of_cell? _ _ hm⟩
        clear hcut hcase hcutc hspl hm hold hnn
        go_upto_region 7 with (go_at_call 21; refine (HCUT.out _ HM.out).mono ?_; rintro e w1 ⟨rfl, n1, rfl⟩)
        obtain ⟨i0, hi, hz0, hz1, hz2⟩ := info_parts infoStr
        go_upto_region 8 with (first
          | (go_at_call 15; refine (HSPL.out (wr.drewN n1) HM.out).mono ?_; rintro e w2 ⟨ws, rfl, rfl, hw1, hw2, hws⟩; have HWS := Aside0.mk hws; clear hws)
          | ((with_reducible refine gate_builtin (b := .append) (xs := #[.tmp 27, .tmp 28]) rfl ?_); at_builtin; go_loud (refine wpList_append_own_at _ rfl (.tmp 27) (.tmp 28) 46 rfl 0 9 i0 _ 1 16 Tryd.underlying46 hi hz0 hz1 hz2 rfl (by decide) (.slice (some ⟨wr.heap.size, 0, none⟩) ws.length ws.length) ws.length (ws.map Value.string) rfl ((own_strs (wr.drewN n1) 0 ws (Nat.zero_le _) (by omega)).alloc _) ⟨wr.heap.size + 1, 0, none⟩ 2 2 [.string ⟨#[]⟩, .string ⟨#[]⟩] rfl rfl (by have := World.news_of_block (cs := #[Value.string ⟨#[]⟩, .string ⟨#[]⟩]) (heap_alloc_new ((wr.drewN n1).alloc (.cells (ws.map Value.string).toArray 9)) (.cells #[Value.string ⟨#[]⟩, .string ⟨#[]⟩] 9)); rwa [World.size_alloc] at this) (by simp [Value.oneCell']) (by unfold maxLen; omega) (by omega) (Nat.zero_le _) ?_); intro v9 w3 hown9 hg9 _ hat9; obtain ⟨g9, cap9, ev9⟩ := ownsRow_succ hown9; subst ev9; have HOWN9 := Aside0.mk hown9; have HG9 := Aside0.mk hg9; clear hown9 hg9 hat9))
        have HB3 : Aside0 (Below wr.heap.size wr w3) := ⟨⟨HG9.out.os, HG9.out.tape, HG9.out.output, (by have := HG9.out.size; simp at this; omega), fun k hk => (HG9.out.block k (by simp; omega) (fun e => by simp [Value.ownBlock] at e; omega)).trans ((Below.heap_alloc _ _ k (by simp; omega)).trans (Below.heap_alloc _ _ k hk))⟩⟩
        have hl3 : ∃ a0 a1 a2 r3, ws ++ [⟨#[]⟩, ⟨#[]⟩] = a0 :: a1 :: a2 :: r3 := by
          match ws, hw1 with
          | [a], _ => exact ⟨_, _, _, _, rfl⟩
          | [a, b], _ => exact ⟨_, _, _, _, rfl⟩
          | a :: b :: c :: r, _ => exact ⟨_, _, _, _, rfl⟩
        obtain ⟨a0, a1, a2, r3, hl3⟩ := hl3
        have hsz : ∀ y ∈ ws ++ [(⟨#[]⟩ : ByteArray), ⟨#[]⟩], y.size ≤ 100000 := fun y hy => by
          rcases List.mem_append.1 hy with hy | hy
          · rw [HWS.out] at hy
            have := splitB_size _ _ _ _ hy
            omega
          · have : y = ⟨#[]⟩ := by simpa using hy
            rw [this]; exact Nat.zero_le _
        rw [hl3] at hsz
        have hs0 := hsz a0 (by simp)
        have hs1 := hsz a1 (by simp)
        have hs2 := hsz a2 (by simp)
        have hown3 : w3.ownsRow 0 9 1 (.slice (some ⟨g9, 0, none⟩) (ws.length + 2) cap9) (ws.length + 2) ((a0 :: a1 :: a2 :: r3).map Value.string) := by
          have := HOWN9.out
          rw [show ws.map Value.string ++ [Value.string ⟨#[]⟩, .string ⟨#[]⟩] = (ws ++ [(⟨#[]⟩ : ByteArray), ⟨#[]⟩]).map Value.string by simp, hl3] at this
          exact this
        have d0 := own_cell hown3 0 (.string a0) rfl
        have d1 := own_cell hown3 1 (.string a1) rfl
        have d2 := own_cell hown3 2 (.string a2) rfl
        have HL3 := Aside0.mk hl3
        have hb3 := HB.out.trans (HB3.out.mono HB.out.size)
        have hat := fun (a : ByteArray) (ha : a.size ≤ 100000) W (hW : Below w3.heap.size w3 W) => atoi_any a W ha (HL.out.old (Old.of_below (hb3.trans (hW.mono hb3.size))))
        have HAT0 := Aside0.mk (hat a0 hs0)
        have HAT1 := Aside0.mk (hat a1 hs1)
        have hlw := World.block_lt_of_cell? _ _ d0
        have hcz : (w3.alloc (.cells #[.slice none 0 0, .int .i64 0, .int .i64 0] 36)).heap[w3.heap.size]? = some (.cells #[.slice none 0 0, .int .i64 0, .int .i64 0] 36 (0, 0)) := heap_alloc_new _ _
        have HBL := Aside0.mk (below_box w3 (.cells #[.slice none 0 0, .int .i64 0, .int .i64 0] 36))
        have hws3 : (ws.length + 2 : Nat) ≤ 100003 := by omega
        have hi0 : (0 : Int) < ((ws.length + 2 : Nat) : Int) := by omega
        have hi1 : (1 : Int) < ((ws.length + 2 : Nat) : Int) := by omega
        have hi2 : (2 : Int) < ((ws.length + 2 : Nat) : Int) := by omega
        have hj0 : (0 : Int) < (ws.length : Int) + 2 := by omega
        have hj1 : (1 : Int) < (ws.length : Int) + 2 := by omega
        have hj2 : (2 : Int) < (ws.length : Int) + 2 := by omega
        have hu := Tryd.underlying36
        clear hown3 hl3 hsz hat hb3 hz0 hz1 hz2 hi
        go_upto_region 10 with (first
          | (go_at_call 17; refine (HAT0.out _ HBL.out).mono ?_; rintro e w4 ⟨z0, ev0, rfl, hz0, hb4⟩; have HZ0 := Aside0.mk hz0; have HB4 := Aside0.mk hb4; have E4 := Aside0.mk (blk_below hcz hb4); have q41 := (blk_cell E4.out 1).trans rfl; have f41 := blk_frozen E4.out 1; clear hz0 hb4))
        have HB5 : Aside0 (Below w3.heap.size w3 (w4.setCell ⟨w3.heap.size, 1, none⟩ (.int .i64 z0))) := ⟨below_set (below_step HBL.out HB4.out) (Nat.le_refl _)⟩
        have E5 := Aside0.mk (blk_put (cs' := #[.slice none 0 0, .int .i64 z0, .int .i64 0]) E4.out 1 (.int .i64 z0) rfl)
        clear q41 f41 E4 hcz HAT0
        generalize w4.setCell ⟨w3.heap.size, 1, none⟩ (.int .i64 z0) = w5 at *
        have d15 := (HB5.out.cell (p := ⟨g9, 1, none⟩) hlw).trans d1
        have d25 := (HB5.out.cell (p := ⟨g9, 2, none⟩) hlw).trans d2
        go_upto_region 11 with (first
          | (go_at_call 17; refine (HAT1.out _ HB5.out).mono ?_; rintro e w6 ⟨z1, ev1, rfl, hz1, hb6⟩; have HZ1 := Aside0.mk hz1; have HB6 := Aside0.mk hb6; have E6 := Aside0.mk (blk_below E5.out hb6); have q62 := (blk_cell E6.out 2).trans rfl; have f62 := blk_frozen E6.out 2; clear hz1 hb6))
        have HB7 : Aside0 (Below w3.heap.size w3 (w6.setCell ⟨w3.heap.size, 2, none⟩ (.int .i64 z1))) := ⟨below_set (below_step HB5.out HB6.out) (Nat.le_refl _)⟩
        have E7 := Aside0.mk (blk_put (cs' := #[.slice none 0 0, .int .i64 z0, .int .i64 z1]) E6.out 2 (.int .i64 z1) rfl)
        clear q62 f62 E6 HAT1 E5 d15 d25 d0 d1
        generalize w6.setCell ⟨w3.heap.size, 2, none⟩ (.int .i64 z1) = w7 at *
        have d27 := (HB7.out.cell (p := ⟨g9, 2, none⟩) hlw).trans d2
        have HD2 := Aside0.mk d2
        clear d2
        go_wp2_with fail
        go_loopg [11, 12, 51] a2.size (fun gg s11 s12 s51 wq => ∃ (k : Nat) (v : Value), k ≤ a2.size ∧ a2.size - k ≤ gg ∧ s51 = .int .i64 k ∧ Aside0 (Below w3.heap.size w3 wq) ∧ Aside0 (wq.heap[w3.heap.size]? = some (.cells #[v, .int .i64 z0, .int .i64 z1] 36 (0, 0))) ∧ Aside0 (Kd.R (Kd.int .i64) 3 wq w3.heap.size (fun j => w3.heap.size < j) v ((a2.data.toList.take k).map sgnR)))
        case atStart => exact ⟨0, .slice none 0 0, by omega, by omega, by go_num, HB7, E7, ⟨Kd.R_nil _ _ _ _ _⟩⟩
        case round =>
          rename World => wq
          obtain ⟨k, v, hk, hg2, rfl, HBQ, HE, HRR⟩ := hrel
          obtain ⟨A5, c5, ev5⟩ := Kd.R_slice HRR.out
          subst ev5
          have hlen5 : ((a2.data.toList.take k).map sgnR).length = k := by
            rw [List.length_map, List.length_take]
            have : a2.size = a2.data.toList.length := rfl
            omega
          have dq := (HBQ.out.cell (p := ⟨g9, 2, none⟩) hlw).trans HD2.out
          have hxs : ∃ xs, xs = (a2.data.toList.take k).map sgnR := ⟨_, rfl⟩
          obtain ⟨xs, hxs⟩ := hxs
          rw [← hxs] at hlen5 HRR HE
          have HXS := Aside0.mk hxs
          rw [hlen5] at HRR HE
          have HLX := Aside0.mk hlen5
          clear hxs hlen5
          by_cases hlt : k < a2.size
          · have hltz : (k : Int) < (a2.size : Int) := by omega
            have hix : ∀ W, (Instr.index 9 (.string a2) (.int .i64 k)).run Tryd.prog W = .ok (.int .u8 ((a2[k]'hlt).toNat : Int)) W := fun W => by
              rw [run_index_string _ _ _ _ _ Tryd.underlying9, dif_pos ⟨by omega, hltz⟩]
              rfl
            have HTK : Aside0 ((a2.data.toList.take (k + 1)).map sgnR = xs ++ [sgnR (a2[k]'hlt)]) := ⟨by
              have hl : k < a2.data.toList.length := hlt
              rw [List.take_succ_eq_append_getElem hl, List.map_append, ← HXS.out]
              rfl⟩
            generalize (a2[k]'hlt) = b at *
            have q0 := (blk_cell HE.out 0).trans rfl
            have f0 := blk_frozen HE.out 0
            have hsg : ∃ (z : Int), z = sgnR b := ⟨_, rfl⟩
            obtain ⟨z, hz⟩ := hsg
            rw [← hz] at HTK
            have hcases := sgnR_cases b
            rw [← hz] at hcases
            clear hz
            generalize b.toNat = bn at *
            have hk1 : k ≤ 100000 := by omega
            rcases hcases with ⟨rfl, rfl⟩ | ⟨rfl, rfl⟩ | ⟨rfl, rfl⟩ | ⟨n1', n2', n3', rfl⟩
            · skip
              go_wp2_with (first | ((with_reducible refine gate_builtin (b := .append) (xs := #[.tmp 66, .tmp 68]) rfl ?_); at_builtin; refine Kd.R_append (Kd.int .i64) (w0 := w3) w3.heap.size rfl (.tmp 66) (.tmp 68) 34 3 (.int .i64 0) 8 rfl Tryd.underlying34 info3 rfl (by decide) (by omega) (.slice A5 k c5) xs _ [.int .i64 _] (fun j => w3.heap.size < j) (fun _ => False) rfl rfl rfl (fun _ hk => hk.elim) (fun j hj => Nat.lt_of_lt_of_le (blk_lt HE.out) hj) HRR.out HBQ.out HBQ.out.size (by have := HLX.out; omega) ?_; intro v8 w8 ho8 hb8 hg8 hat8; obtain ⟨A8, c8, ev8⟩ := Kd.R_slice ho8; subst ev8; have HO8 := Aside0.mk ho8; have HB8 := Aside0.mk hb8; have E8 := Aside0.mk (blk_grown HE.out hg8 (fun e => by have := HRR.out.1 _ e.symm; omega)); have q8 := (blk_cell E8.out 0).trans rfl; have f8 := blk_frozen E8.out 0; clear ho8 hb8 hg8 hat8))
              go_roundg (a2.size - (k + 1))
              case measure => omega
              case rel =>
                refine ⟨k + 1, _, by omega, by omega, by go_num, ⟨below_set HB8.out (Nat.le_refl _)⟩, ⟨blk_put E8.out 0 _ rfl⟩, ⟨?_⟩⟩
                have h1 := Kd.R_far (p := ⟨w3.heap.size, 0, none⟩) HO8.out (fun j (hj : w3.heap.size < j) (e : j = w3.heap.size) => by omega) (.slice A8 (xs.length + 1) c8)
                rw [HTK.out]
                simpa using h1
            · skip
              go_wp2_with (first | ((with_reducible refine gate_builtin (b := .append) (xs := #[.tmp 66, .tmp 68]) rfl ?_); at_builtin; refine Kd.R_append (Kd.int .i64) (w0 := w3) w3.heap.size rfl (.tmp 66) (.tmp 68) 34 3 (.int .i64 0) 8 rfl Tryd.underlying34 info3 rfl (by decide) (by omega) (.slice A5 k c5) xs _ [.int .i64 _] (fun j => w3.heap.size < j) (fun _ => False) rfl rfl rfl (fun _ hk => hk.elim) (fun j hj => Nat.lt_of_lt_of_le (blk_lt HE.out) hj) HRR.out HBQ.out HBQ.out.size (by have := HLX.out; omega) ?_; intro v8 w8 ho8 hb8 hg8 hat8; obtain ⟨A8, c8, ev8⟩ := Kd.R_slice ho8; subst ev8; have HO8 := Aside0.mk ho8; have HB8 := Aside0.mk hb8; have E8 := Aside0.mk (blk_grown HE.out hg8 (fun e => by have := HRR.out.1 _ e.symm; omega)); have q8 := (blk_cell E8.out 0).trans rfl; have f8 := blk_frozen E8.out 0; clear ho8 hb8 hg8 hat8))
              go_roundg (a2.size - (k + 1))
              case measure => omega
              case rel =>
                refine ⟨k + 1, _, by omega, by omega, by go_num, ⟨below_set HB8.out (Nat.le_refl _)⟩, ⟨blk_put E8.out 0 _ rfl⟩, ⟨?_⟩⟩
                have h1 := Kd.R_far (p := ⟨w3.heap.size, 0, none⟩) HO8.out (fun j (hj : w3.heap.size < j) (e : j = w3.heap.size) => by omega) (.slice A8 (xs.length + 1) c8)
                rw [HTK.out]
                simpa using h1
            · skip
              go_wp2_with (first | ((with_reducible refine gate_builtin (b := .append) (xs := #[.tmp 66, .tmp 68]) rfl ?_); at_builtin; refine Kd.R_append (Kd.int .i64) (w0 := w3) w3.heap.size rfl (.tmp 66) (.tmp 68) 34 3 (.int .i64 0) 8 rfl Tryd.underlying34 info3 rfl (by decide) (by omega) (.slice A5 k c5) xs _ [.int .i64 _] (fun j => w3.heap.size < j) (fun _ => False) rfl rfl rfl (fun _ hk => hk.elim) (fun j hj => Nat.lt_of_lt_of_le (blk_lt HE.out) hj) HRR.out HBQ.out HBQ.out.size (by have := HLX.out; omega) ?_; intro v8 w8 ho8 hb8 hg8 hat8; obtain ⟨A8, c8, ev8⟩ := Kd.R_slice ho8; subst ev8; have HO8 := Aside0.mk ho8; have HB8 := Aside0.mk hb8; have E8 := Aside0.mk (blk_grown HE.out hg8 (fun e => by have := HRR.out.1 _ e.symm; omega)); have q8 := (blk_cell E8.out 0).trans rfl; have f8 := blk_frozen E8.out 0; clear ho8 hb8 hg8 hat8))
              go_roundg (a2.size - (k + 1))
              case measure => omega
              case rel =>
                refine ⟨k + 1, _, by omega, by omega, by go_num, ⟨below_set HB8.out (Nat.le_refl _)⟩, ⟨blk_put E8.out 0 _ rfl⟩, ⟨?_⟩⟩
                have h1 := Kd.R_far (p := ⟨w3.heap.size, 0, none⟩) HO8.out (fun j (hj : w3.heap.size < j) (e : j = w3.heap.size) => by omega) (.slice A8 (xs.length + 1) c8)
                rw [HTK.out]
                simpa using h1
            · skip
              have m1 : ((bn : Int) == 43) = false := beq_eq_false_iff_ne.2 (by omega)
              have m2 : ((bn : Int) == 46) = false := beq_eq_false_iff_ne.2 (by omega)
              have m3 : ((bn : Int) == 45) = false := beq_eq_false_iff_ne.2 (by omega)
              go_wp2_with (first | ((with_reducible refine gate_builtin (b := .append) (xs := #[.tmp 66, .tmp 68]) rfl ?_); at_builtin; refine Kd.R_append (Kd.int .i64) (w0 := w3) w3.heap.size rfl (.tmp 66) (.tmp 68) 34 3 (.int .i64 0) 8 rfl Tryd.underlying34 info3 rfl (by decide) (by omega) (.slice A5 k c5) xs _ [.int .i64 _] (fun j => w3.heap.size < j) (fun _ => False) rfl rfl rfl (fun _ hk => hk.elim) (fun j hj => Nat.lt_of_lt_of_le (blk_lt HE.out) hj) HRR.out HBQ.out HBQ.out.size (by have := HLX.out; omega) ?_; intro v8 w8 ho8 hb8 hg8 hat8; obtain ⟨A8, c8, ev8⟩ := Kd.R_slice ho8; subst ev8; have HO8 := Aside0.mk ho8; have HB8 := Aside0.mk hb8; have E8 := Aside0.mk (blk_grown HE.out hg8 (fun e => by have := HRR.out.1 _ e.symm; omega)); have q8 := (blk_cell E8.out 0).trans rfl; have f8 := blk_frozen E8.out 0; clear ho8 hb8 hg8 hat8))
              go_roundg (a2.size - (k + 1))
              case measure => omega
              case rel =>
                refine ⟨k + 1, _, by omega, by omega, by go_num, ⟨below_set HB8.out (Nat.le_refl _)⟩, ⟨blk_put E8.out 0 _ rfl⟩, ⟨?_⟩⟩
                have h1 := Kd.R_far (p := ⟨w3.heap.size, 0, none⟩) HO8.out (fun j (hj : w3.heap.size < j) (e : j = w3.heap.size) => by omega) (.slice A8 (xs.length + 1) c8)
                rw [HTK.out]
                simpa using h1
          · have hke : k = a2.size := by omega
            subst hke
            have hltz : ¬ (a2.size : Int) < (a2.size : Int) := by omega
            have hxe : xs = a2.data.toList.map sgnR := by
              rw [HXS.out, List.take_of_length_le (show a2.data.toList.length ≤ a2.size from Nat.le_refl _)]
            have HXE := Aside0.mk hxe
            clear hxe
            have q0 := (blk_cell HE.out 0).trans rfl
            have q1 := (blk_cell HE.out 1).trans rfl
            have q2 := (blk_cell HE.out 2).trans rfl
            have hbq : Below wr.heap.size wr wq := HB3.out.trans (HBQ.out.mono HB3.out.size)
            have HO : Aside0 (Kd.R k36 36 wq w.heap.size (fun _ => True) (.slice A cs.length c) cs) := ⟨Kd.R_below HR.out hbq⟩
            have HBW : Aside0 (Below w.heap.size w wq) := ⟨HB.out.trans (hbq.mono HB.out.size)⟩
            have HVB : Aside0 (∀ k, (Value.slice A cs.length c).ownBlock = some k → k < wr.heap.size) := ⟨fun k hk => Kd.R_lt HR.out k hk⟩
            have HRR2 : Aside0 (Kd.R (Kd.int .i64) 3 wq w.heap.size (fun j => w3.heap.size < j) (.slice A5 a2.size c5) xs) := ⟨Kd.R_lower HRR.out (Nat.le_trans HB.out.size HB3.out.size)⟩
            have hs3 : wr.heap.size ≤ w3.heap.size := HB3.out.size
            clear hbq
            go_upto_region 25 with (first | ((with_reducible refine gate_builtin (b := .append) (xs := #[.tmp 72, .tmp 74]) rfl ?_); at_builtin; refine Kd.R_append k36 (w0 := w) w.heap.size rfl (.tmp 72) (.tmp 74) 24 36 (.agg #[.slice none 0 0, .int .i64 0, .int .i64 0]) 40 rfl Tryd.underlying24 infoCell rfl (by decide) (by omega) (.slice A cs.length c) cs ⟨xs, z0, z1⟩ [.slice A5 a2.size c5, .int .i64 z0, .int .i64 z1] (fun _ => True) (fun j => w3.heap.size < j) rfl rfl (k36_mkM _ _ _ ⟨xs, z0, z1⟩ HRR2.out) (fun j hj => ⟨trivial, fun e => by have := HVB.out j e.symm; omega⟩) (fun _ _ => trivial) HO.out HBW.out HBW.out.size (by omega) ?_; intro v10 w10 ho10 hb10 hg10 hat10; obtain ⟨A10, c10, ev10⟩ := Kd.R_slice ho10; subst ev10; have HO10 := Aside0.mk ho10; have HB10 := Aside0.mk hb10; have HG10 := Aside0.mk hg10; have E10 := Aside0.mk (blk_grown HE.out hg10 (fun e => by have := HVB.out _ e.symm; omega)); clear ho10 hb10 hg10 hat10))
            have r0 := (blk_cell E10.out 0).trans rfl
            have r1 := (blk_cell E10.out 1).trans rfl
            have r2 := (blk_cell E10.out 2).trans rfl
            have hR10 : Kd.R (Kd.int .i64) 3 w10 w.heap.size (fun j => w3.heap.size < j) (.slice A5 a2.size c5) xs := Kd.R_step HRR2.out (fun j hj hlt => HG10.out.block j hlt (fun e => by have := HVB.out _ e.symm; omega))
            obtain ⟨_, hl10, hC10⟩ := Kd.R_reads' hR10
            rw [← HLX.out] at hl10
            have HC10 := Aside0.mk hC10
            obtain ⟨_, hlc, hCc⟩ := Kd.R_reads' HO10.out
            have HCC := Aside0.mk hCc
            have hcand : ∀ y, Good cs (tx.data.toList ++ [10]) y → y = ⟨xs, z0, z1⟩ := fun y hy => by
              obtain ⟨y1, y2, y3⟩ := hy.words
              rw [trim_nl] at y1
              have ha := hy.ok.2.2.atoi
              have hw := congrArg (List.map (fun b : ByteArray => b.data.toList)) HWS.out
              rw [Lib.splitB_data] at hw
              have hw2 : ws.map (fun b : ByteArray => b.data.toList) = [Lib.itoa y.f1, Lib.itoa y.f2, y.f0.map signB] := by
                rw [hw, ← y3, ← y1]
                show Lib.splitK [32] 0 (Lib.count tx.data.toList [32]) tx.data.toList = _
                rw [y1, y2]
              have hw3 := congrArg (List.map (fun b : ByteArray => b.data.toList)) HL3.out
              rw [List.map_append, hw2] at hw3
              simp only [List.map_cons, List.cons_append, List.nil_append, List.cons.injEq] at hw3
              obtain ⟨e0, e1, e2, _⟩ := hw3
              have h0 : z0 = y.f1 := by
                rcases HZ0.out with ⟨p, q⟩ | ⟨p, _⟩
                · rw [← e0, ha.1] at p; exact (Lib.NumEnd.ok.inj p).symm
                · exact absurd (by rw [← e0]; exact ha.1) (p y.f1)
              have h1 : z1 = y.f2 := by
                rcases HZ1.out with ⟨p, q⟩ | ⟨p, _⟩
                · rw [← e1, ha.2.1] at p; exact (Lib.NumEnd.ok.inj p).symm
                · exact absurd (by rw [← e1]; exact ha.2.1) (p y.f2)
              have h2 : xs = y.f0 := by
                rw [HXE.out, ← e2]; exact ha.2.2.2.1
              rw [h2, h0, h1]
            have HCAND := Aside0.mk hcand
            have hstop : ∀ tl rst, linesB sb.data.toList = tl :: rst → (∀ y, ¬ Good cs tl y) → ParseD [] 0 (linesB s.data.toList) ([], (ts.length : Int), 2) := fun tl rst htl hno => by
              refine HRE.out.1.stop hno ⟨rst, ?_⟩
              rw [← HRE.out.2, htl]; simp
            have HSTOP := Aside0.mk hstop
            clear hcand hstop hR10 hC10 hCc
            cases en with
            | false =>
              have HPD : Aside0 (ParseD [] 0 (linesB s.data.toList) ([], (ts.length : Int), 2)) := ⟨by
                rcases HCASE.out with ⟨e, _⟩ | ⟨_, _, e2, e3⟩
                · cases e
                · refine HSTOP.out _ _ e2 (fun y hy => ?_)
                  exact e3 10 (by rw [hy.2]; simp) rfl⟩
              go_wp2_with fail
              refine bodyPost_ret (results_tmp3 rfl _ _ _) rfl ?_
              exact ⟨_, ([], (ts.length : Int), 2), rfl, Kd.R_nil _ _ _ _ _, by rw [if_neg HSZ.out]; exact HPD.out, HB10.out⟩
            | true =>
              have hlin : linesB sb.data.toList = (tx.data.toList ++ [10]) :: linesB rs.data.toList := by
                rcases HCASE.out with ⟨_, e⟩ | ⟨e, _⟩
                · exact e
                · cases e
              have HLIN := Aside0.mk hlin
              obtain ⟨kk, hkk⟩ := (refWritten (cs ++ [⟨xs, z0, z1⟩]) (by simp; omega) (cells_len HCC.out)).rounds
              have hwc := lightsieveref07_written.calls kk A10 c10 (cs ++ [⟨xs, z0, z1⟩]) _ w10 HCC.out hlc hkk
              have HREJ : Aside0 ((∀ y, ¬ Good cs (tx.data.toList ++ [10]) y) → ∀ W (v : Value), Below w10.heap.size w10 W → ParsePost s w (.returned (.tuple #[.slice none 0 0, .int .i64 ts.length, .int .i64 2])) W) := ⟨fun hno W _ hW =>
                ⟨_, ([], (ts.length : Int), 2), rfl, Kd.R_nil _ _ _ _ _, by rw [if_neg HSZ.out]; exact HSTOP.out _ _ HLIN.out hno, HB10.out.trans (hW.mono HB10.out.size)⟩⟩
              clear hlin hkk
              cases hlb : listB (cs ++ [⟨xs, z0, z1⟩]) with
              | false =>
                rw [hlb] at hwc
                have HNO : Aside0 (∀ y, ¬ Good cs (tx.data.toList ++ [10]) y) := ⟨fun y hy => by
                  have := HCAND.out y hy
                  subst this
                  have := hy.1
                  rw [hlb] at this
                  cases this⟩
                clear hlb
                simp only [List.length_append, List.length_singleton] at hwc
                go_wp2_with (go_at_call 22; refine hwc.mono ?_; rintro e w11 ⟨rfl, hb11⟩)
                refine bodyPost_ret (results_tmp3 rfl _ _ _) rfl ?_
                exact HREJ.out HNO.out _ undef hb11
              | true =>
                rw [hlb] at hwc
                have HLB := Aside0.mk hlb
                have hyo := (listB_ok hlb).2 ⟨xs, z0, z1⟩ (by simp)
                have hln := fun W (hW : Below w10.heap.size w10 W) => line_any A5 c5 xs z0 z1 W (Kd.C_below HC10.out hW) hl10 (by have := hyo.2.1; dsimp only at this; omega) hyo.2.2 (HL.out.old (Old.of_below (HB10.out.trans (hW.mono HB10.out.size)))).tab
                obtain ⟨bl, hbl⟩ : ∃ bl : ByteArray, bl = ⟨(lineB xs z0 z1).toArray⟩ := ⟨_, rfl⟩
                rw [← hbl] at hln
                have HBLN := Aside0.mk hbl
                have HLN := Aside0.mk hln
                clear hlb hln hbl hyo
                simp only [List.length_append, List.length_singleton] at hwc
                by_cases hxo : bl = tx
                · subst hxo
                  have HGOOD : Aside0 (Good cs (bl.data.toList ++ [10]) ⟨xs, z0, z1⟩) := ⟨HLB.out, by rw [HBLN.out]; rfl⟩
                  go_wp2_with (first
                    | (go_at_call 22; refine hwc.mono ?_; rintro e w11 ⟨rfl, hb11⟩; have r110 := (hb11.cell (p := ⟨w3.heap.size, 0, none⟩) (blk_lt E10.out)).trans r0; have r111 := (hb11.cell (p := ⟨w3.heap.size, 1, none⟩) (blk_lt E10.out)).trans r1; have r112 := (hb11.cell (p := ⟨w3.heap.size, 2, none⟩) (blk_lt E10.out)).trans r2)
                    | (go_at_call 23; refine (HLN.out _ hb11).mono ?_; rintro e w12 ⟨rfl, hb12⟩))
                  have hbb := hb11.trans (hb12.mono hb11.size)
                  go_roundg ((linesB rs.data.toList).length)
                  case measure =>
                    have hgg := hg
                    rw [HLIN.out, List.length_cons] at hgg
                    omega
                  case rel =>
                    refine ⟨rs, cs ++ [⟨xs, z0, z1⟩], ts ++ [bl.data.toList ++ [10]], Nat.le_refl _, rfl, (by rw [List.length_append, List.length_singleton]; go_num), HRL.out, ⟨?_⟩, ⟨HB10.out.trans (hbb.mono HB10.out.size)⟩, ⟨HRE.out.1.snoc HGOOD.out, ?_⟩, (listB_ok HLB.out).1, ⟨by simp [HTL.out]⟩⟩
                    · have := Kd.R_below HO10.out hbb
                      rwa [List.length_append, List.length_singleton] at this
                    · rw [← HRE.out.2, HLIN.out]; simp
                · have hxo1 : (bl.toList == tx.toList) = false := by
                    rw [ByteArray.toList_eq, ByteArray.toList_eq]
                    exact beq_eq_false_iff_ne.2 (fun e => hxo (bytes_eq e))
                  have HNO : Aside0 (∀ y, ¬ Good cs (tx.data.toList ++ [10]) y) := ⟨fun y hy => by
                    have hy1 := HCAND.out y hy
                    subst hy1
                    apply hxo
                    rw [HBLN.out]
                    exact bytes_eq (List.append_cancel_right hy.2).symm⟩
                  go_wp2_with (first
                    | (go_at_call 22; refine hwc.mono ?_; rintro e w11 ⟨rfl, hb11⟩; have r110 := (hb11.cell (p := ⟨w3.heap.size, 0, none⟩) (blk_lt E10.out)).trans r0; have r111 := (hb11.cell (p := ⟨w3.heap.size, 1, none⟩) (blk_lt E10.out)).trans r1; have r112 := (hb11.cell (p := ⟨w3.heap.size, 2, none⟩) (blk_lt E10.out)).trans r2)
                    | (go_at_call 23; refine (HLN.out _ hb11).mono ?_; rintro e w12 ⟨rfl, hb12⟩))
                  refine bodyPost_ret (results_tmp3 rfl _ _ _) rfl ?_
                  exact HREJ.out HNO.out _ undef (hb11.trans (hb12.mono hb11.size))
end Go.Proofs.YthmfgbjimdondaaDoor.P
/- (*strings.Builder).WriteString, bit.Format and the reference's Format. -/
namespace Go.Proofs.YthmfgbjimdondaaDoor.P
open Go.RowKit Go.Proofs.YthmfgbjimdondaaDoorW.PrintWords Go.Proofs.YthmfgbjimdondaaDoorW.PrintLast Go.Proofs.YthmfgbjimdondaaDoorW.PrintMore
set_option linter.unusedVariables false
set_option linter.unusedSimpArgs false

set_option maxHeartbeats 2000000 in
set_option maxRecDepth 100000 in
theorem copyCheck_any (B b : Nat) (bs : List Value) (w : World) (h : Lib.IsBuilderF 61 5 B b bs w) :
    Calls Tryd.prog 45 #[.pointer (some ⟨b, 0, none⟩)] w fun e w' => e = .returned (.tuple #[]) ∧ Lib.BuilderAtF 61 5 B b (.pointer (some ⟨b, 0, none⟩)) bs w' ∧ Below B w w' := by
  rcases h with h | h
  · have c0 := h.cell0
    have f0 := h.frozen0
    have hsh := h.shape
    have H := Aside0.mk h
    clear h
    go_enter Tryd.func45, Tryd.ntmps45
    obtain ⟨j, hj, hjs⟩ := Option.map_eq_some_iff.1 (show (Tryd.prog.info? 61).map (·.size) = some 2 by kernel_rfl)
    go_wp2
    rw [Lib.run_to_unsafe w ⟨b, 0, none⟩ Tryd.underlying58 Tryd.underlying96 hj (by rw [hjs]; decide) hsh (Nat.zero_lt_succ 1)]
    simp only [Result.andThen]
    rw [Oper.upon_value]
    go_wp2
    rw [run_callFunc_extern Tryd.func65 (by kernel_rfl) (by kernel_rfl) (by kernel_rfl) (e := Extern.AbiNoEscape.same) (by kernel_rfl)]
    rw [Lib.run_noEscape]
    simp only [Result.andThen]
    rw [Oper.upon_value]
    go_wp2
    rw [Lib.run_from_unsafe w ⟨b, 0, none⟩ Tryd.underlying96 Tryd.underlying58 hj hsh (by kernel_rfl)]
    simp only [Result.andThen]
    rw [Oper.upon_value]
    go_wp2
    go_end0
    exact ⟨rfl, H.out.used _, (Below.refl B w).setCell (p := ⟨b, 0, none⟩) H.out.1 _⟩
  · have c0 := h.cell0
    have f0 := h.frozen0
    have hsh := h.shape
    have H := Aside0.mk h
    clear h
    obtain ⟨j, hj, hjs⟩ := Option.map_eq_some_iff.1 (show (Tryd.prog.info? 61).map (·.size) = some 2 by kernel_rfl)
    go_enter Tryd.func45, Tryd.ntmps45
    go_wp2
    rw [Lib.run_neq_ptr_same w _ Tryd.underlying58 hj]
    go_wp2
    go_end0
    exact ⟨rfl, H.out, Below.refl B _⟩

set_option maxHeartbeats 2000000 in
set_option maxRecDepth 100000 in
theorem WriteString_any (B b : Nat) (bs : List Value) (s : ByteArray) (w : World) (h : Lib.IsBuilderF 61 5 B b bs w) (hlen : bs.length + s.size ≤ 140737488355328) (hBw : B ≤ w.heap.size) :
    Calls Tryd.prog 25 #[.pointer (some ⟨b, 0, none⟩), .string s] w fun e w' => e = .returned (.tuple #[.int .i64 s.size, .nilIface]) ∧ Lib.BuilderAtF 61 5 B b (.pointer (some ⟨b, 0, none⟩)) (bs ++ Lib.strCells s) w' ∧ Below B w w' := by
  obtain ⟨i0, hi, hz0, hz1, hz2⟩ := info_parts (show (Tryd.prog.info? 5).map (fun i => (i.zero, i.size, i.bytes)) = some (some (.int .u8 0), 1, 1) by kernel_rfl)
  go_enter Tryd.func25, Tryd.ntmps25
  go_wp2_with (go_at_call 45; refine (copyCheck_any B b bs _ h).mono ?_)
  rintro e w1 ⟨rfl, h1, hb1⟩
  obtain ⟨hB, v, hbk, hown, hne⟩ := h1
  have c0 : w1.cell? ⟨b, 0, none⟩ = some (.pointer (some ⟨b, 0, none⟩)) := by rw [Lib.cell_of_heap hbk]; rfl
  have c1 : w1.cell? ⟨b, 1, none⟩ = some v := by rw [Lib.cell_of_heap hbk]; rfl
  go_wp2_with (at_builtin; refine Lib.wpList_append_own_stringF _ rfl _ _ 59 9 rfl B 5 i0 Tryd.underlying59 Tryd.underlying9 hi hz0 hz1 hz2 _ _ _ rfl hown s rfl ?c3 ?c4 ?c5 ?_)
  case c3 => unfold maxLen; omega
  case c4 => omega
  case c5 => have := hb1.size; omega
  intro v' w2 hown' hgrow _
  have hlt : b < w1.heap.size := by
    rcases Nat.lt_or_ge b w1.heap.size with h' | h'
    · exact h'
    · simp [Array.getElem?_eq_none h'] at hbk
  have hb2 : w2.heap[b]? = some (.cells #[.pointer (some ⟨b, 0, none⟩), v] 61 (0, 0)) := by
    rw [hgrow.block b hlt (fun e => hne e.symm)]
    exact hbk
  have d0 : w2.cell? ⟨b, 0, none⟩ = some (.pointer (some ⟨b, 0, none⟩)) := by rw [Lib.cell_of_heap hb2]; rfl
  have d1 : w2.cell? ⟨b, 1, none⟩ = some v := by rw [Lib.cell_of_heap hb2]; rfl
  have f1 : w2.frozen? ⟨b, 1, none⟩ = false := Lib.frozen_of_heap hb2 1
  obtain ⟨ao, n', cap, rfl⟩ : ∃ ao n' cap, v' = .slice ao n' cap := by
    rcases hown'.2 with ⟨hv, _⟩ | ⟨g, cap, cur, fz, hv, _⟩
    · exact ⟨_, _, _, hv⟩
    · exact ⟨_, _, _, hv⟩
  go_wp2
  go_ret2
  refine ⟨rfl, ?_, ?_⟩
  · exact Lib.BuilderAtF.put (T := 61) (e := 5) hB hb2 (bs' := bs ++ Lib.strCells s) (by simpa [Lib.strCells_length] using hown') (by decide)
  · exact (hb1.grown hgrow (by have := hb1.size; omega) (fun k hk => (hown.lt k hk).1)).setCell (p := ⟨b, 1, none⟩) hB _
end Go.Proofs.YthmfgbjimdondaaDoor.P
/- bit.Format and the reference's Format. -/
namespace Go.Proofs.YthmfgbjimdondaaDoor.P
open Go.RowKit Go.Proofs.YthmfgbjimdondaaDoorW.PrintWords Go.Proofs.YthmfgbjimdondaaDoorW.PrintLast Go.Proofs.YthmfgbjimdondaaDoorW.PrintMore
set_option linter.unusedVariables false
set_option linter.unusedSimpArgs false

theorem builder_below {T e : TypeId} {B b : Nat} {bs : List Value} {w w' : World} (h : Lib.IsBuilderF T e B b bs w) (hb : Below w.heap.size w w') : Lib.IsBuilderF T e B b bs w' := by
  have key : ∀ p, Lib.BuilderAtF T e B b p bs w → Lib.BuilderAtF T e B b p bs w' := by
    intro p h
    have hlt := h.lt
    obtain ⟨hB, v, hbk, hown, hne⟩ := h
    refine ⟨hB, v, (hb.block b hlt).trans hbk, ⟨hown.1, ?_⟩, hne⟩
    rcases hown.2 with hn | ⟨g, cap, cur, fz, hv, hbg, hgg, rest⟩
    · exact .inl hn
    · exact .inr ⟨g, cap, cur, fz, hv, hbg, (hb.block g (Array.getElem?_eq_some_iff.1 hgg).1).trans hgg, rest⟩
  rcases h with h | h
  · exact .inl (key _ h)
  · exact .inr (key _ h)
theorem builder_new (w : World) (B : Nat) (hB : B ≤ w.heap.size) : Lib.IsBuilderF 61 5 B w.heap.size (Lib.byteCells []) (w.alloc (.cells #[.pointer none, .slice none 0 0] 61)) :=
  .inl ⟨hB, .slice none 0 0, blk_new w _, World.ownsRowF_nil _ _ _ _, by simp [Value.ownBlock]⟩
def linesC (d : List S36) : List UInt8 := d.flatMap fun x => lineC x ++ [10]
theorem linesC_len : ∀ d : List S36, (∀ x ∈ d, 1 ≤ x.f0.length ∧ x.f0.length ≤ 8 ∧ okCell x.f0 x.f1 x.f2) → (linesC d).length ≤ d.length * 20
  | [], _ => by simp [linesC]
  | x :: d, hd => by
    have ih := linesC_len d (fun y hy => hd y (List.mem_cons_of_mem _ hy))
    obtain ⟨_, a, b⟩ := hd x (List.mem_cons_self ..)
    have := line_len b
    have e : (lineC x).length = (lineB x.f0 x.f1 x.f2).length := rfl
    have e2 : linesC (x :: d) = (lineC x ++ [10]) ++ linesC d := rfl
    rw [e2]
    simp only [List.length_append, List.length_cons, List.length_nil]
    omega
theorem linesC_snoc (d : List S36) (x : S36) : linesC (d ++ [x]) = linesC d ++ (lineC x ++ [10]) := by simp [linesC, List.flatMap_append]
theorem take_snoc {c : List S36} {k : Nat} (h : k < c.length) : c.take (k + 1) = c.take k ++ [c.getD k z36] := by
  rw [List.take_succ_eq_append_getElem h]
  simp [List.getD_eq_getElem?_getD, List.getElem?_eq_getElem h]
theorem rd_at (c : List S36) (k : Nat) : rd_T36 c (k : Int) = c.getD k z36 := by unfold rd_T36; rw [Int.toNat_natCast]

set_option maxHeartbeats 4000000 in
set_option maxRecDepth 100000 in
theorem format_any (A0 : Option Addr) (c0 : Nat) (c : List S36) (w : World) (hr : Kd.C k36 w A0 c.length c) (hc : c.length ≤ c0) (hT : Tab w) :
    Calls Tryd.prog 9 #[.slice A0 c.length c0] w fun e w' => e = .returned (.string ⟨(formatC c).toArray⟩) ∧ Below w.heap.size w w' := by
  have hu := Tryd.underlying36
  have HL := Aside0.mk (bit_listed.calls A0 c0 c (listB c) w hr hc rfl)
  by_cases hb : listB c = true
  · have HF : Aside0 (formatC c = linesC c) := ⟨if_pos hb⟩
    have HOK := Aside0.mk (listB_ok hb)
    rw [hb] at HL
    have hlen : c.length ≤ 30 := (listB_ok hb).1
    have HR := Aside0.mk hr
    have HT := Aside0.mk hT
    have HC := Aside0.mk hc
    clear hb hr hT hc
    generalize formatC c = out at *
    go_enter Tryd.func9, Tryd.ntmps9
    go_wp2_with (go_at_call 19; refine HL.out.mono ?_; rintro e w1 ⟨rfl, hb1⟩)
    have HB1 := Aside0.mk hb1
    have HS1 := Aside0.mk hb1.size
    clear hb1 HL
    go_loopg [11] c.length (fun gg s11 wr => ∃ (k : Nat), k ≤ c.length ∧ c.length - k ≤ gg ∧ s11 = .int .i64 k ∧ Aside0 (Lib.IsBuilderF 61 5 w.heap.size w1.heap.size (Lib.byteCells (linesC (c.take k))) wr) ∧ Aside0 (Below w.heap.size w wr))
    case atStart => exact ⟨0, by omega, by omega, by go_num, ⟨by simpa [linesC] using builder_new w1 w.heap.size HS1.out⟩, ⟨below_alloc HB1.out _⟩⟩
    case round =>
      obtain ⟨k, hk, hg, rfl, HBU, HB⟩ := hrel
      by_cases hlt : k < c.length
      · have hltz : (k : Int) < (c.length : Int) := by omega
        obtain ⟨ad, A1, c1, e1, g0, g1, g2, hc1, hr1⟩ := at_T36 HR.out (k : Int) (by omega) hltz
        cases e1
        rw [Int.toNat_natCast] at g0 g1 g2
        have hmem : rd_T36 c (k : Int) ∈ c := by rw [rd_at]; exact mem_getD c _ k hlt
        obtain ⟨x, hx⟩ : ∃ x, rd_T36 c (k : Int) = x := ⟨_, rfl⟩
        rw [hx] at g0 g1 g2 hc1 hr1 hmem
        have HOX := Aside0.mk (HOK.out.2 x hmem)
        have HTK : Aside0 (linesC (c.take (k + 1)) = linesC (c.take k) ++ (lineB x.f0 x.f1 x.f2 ++ [10])) := ⟨by rw [take_snoc hlt, linesC_snoc, ← rd_at, hx]; rfl⟩
        have HLT : Aside0 ((linesC (c.take k)).length ≤ 600) := ⟨by
          have := linesC_len (c.take k) (fun y hy => HOK.out.2 y (List.mem_of_mem_take hy))
          have e : (c.take k).length = k := by simp; omega
          rw [e] at this
          omega⟩
        have HR1 := Aside0.mk hr1
        have HC1 := Aside0.mk hc1
        replace g0 := (HB.out.cell (World.block_lt_of_cell? w _ g0)).trans g0
        replace g1 := (HB.out.cell (World.block_lt_of_cell? w _ g1)).trans g1
        replace g2 := (HB.out.cell (World.block_lt_of_cell? w _ g2)).trans g2
        clear hr1 hc1 hmem hx
        go_wp2_with (first
          | ((with_reducible refine gate_dst (N := 5) rfl ?_); refine box_event ?hg (N := 5) ?hd (cs := #[.slice none 0 0, .int .i64 0, .int .i64 0]) (t := 36) ?hr ?_; (case hd => rfl); (case hg => rfl); (case hr => first | (go_simp; done) | (go_simp; rfl)); intro gb hgb w10 hbox hb; have HX := Aside0.mk (And.intro hgb (And.intro hbox hb)); have hcz0 : w10.cell? ⟨gb, 0, none⟩ = some (.slice none 0 0) := (blk_cell hbox 0).trans rfl; have hcz1 : w10.cell? ⟨gb, 1, none⟩ = some (.int .i64 0) := (blk_cell hbox 1).trans rfl; have hcz2 : w10.cell? ⟨gb, 2, none⟩ = some (.int .i64 0) := (blk_cell hbox 2).trans rfl; have hfz0 := blk_frozen hbox 0; have hfz1 := blk_frozen hbox 1; have hfz2 := blk_frozen hbox 2; clear hgb hbox hb))
        have HW2 : Aside0 (Below wr.heap.size wr (((w10.setCell ⟨gb, 0, none⟩ (.slice A1 x.f0.length c1)).setCell ⟨gb, 1, none⟩ (.int .i64 x.f1)).setCell ⟨gb, 2, none⟩ (.int .i64 x.f2))) := ⟨below_set (below_set (below_set HX.out.2.2 (Nat.le_of_eq HX.out.1.symm)) (Nat.le_of_eq HX.out.1.symm)) (Nat.le_of_eq HX.out.1.symm)⟩
        clear hcz0 hcz1 hcz2 hfz0 hfz1 hfz2 g0 g1 g2 HX
        generalize (((w10.setCell ⟨gb, 0, none⟩ (.slice A1 x.f0.length c1)).setCell ⟨gb, 1, none⟩ (.int .i64 x.f1)).setCell ⟨gb, 2, none⟩ (.int .i64 x.f2)) = w11 at *
        have HB2 := Aside0.mk (below_step HB.out HW2.out)
        refine (written_any A1 c1 x.f0 x.f1 x.f2 w11 (Kd.C_below HR1.out HB2.out) HC1.out (by have := HOX.out.2.1; omega) HOX.out.2.2 (HT.out.below HB2.out (Nat.le_refl _))).mono ?_
        rintro e w3 ⟨rfl, hb3⟩
        have HB3 := Aside0.mk (below_step HB2.out hb3)
        have HBU3 := Aside0.mk (builder_below HBU.out (below_step HW2.out hb3))
        have HSZ3 : Aside0 (w.heap.size ≤ w3.heap.size) := ⟨HB3.out.size⟩
        have HLN : Aside0 ((Lib.byteCells (linesC (c.take k))).length + (ByteArray.mk (lineB x.f0 x.f1 x.f2 ++ [10]).toArray).size ≤ 140737488355328) := ⟨by
          have h1 := line_len HOX.out.2.2
          have h2 := HLT.out
          have h3 := HOX.out.2.1
          rw [Lib.byteCells_length]
          show _ + (lineB x.f0 x.f1 x.f2 ++ [10]).toArray.size ≤ _
          simp only [List.size_toArray, List.length_append, List.length_cons, List.length_nil]
          omega⟩
        clear hb3
        have HTB : Aside0 (Lib.byteCells (linesC (c.take k)) ++ Lib.strCells ⟨(lineB x.f0 x.f1 x.f2 ++ [10]).toArray⟩ = Lib.byteCells (linesC (c.take (k + 1)))) := ⟨by rw [HTK.out, Lib.byteCells_append, Lib.strCells_toArray]⟩
        generalize (ByteArray.mk (lineB x.f0 x.f1 x.f2 ++ [10]).toArray) = sb at *
        go_wp2_with (go_at_call 25; refine (WriteString_any w.heap.size w1.heap.size _ sb w3 HBU3.out HLN.out HSZ3.out).mono ?_)
        rintro e w4 ⟨rfl, hbu4, hb4⟩
        have HB4 := Aside0.mk (HB3.out.trans hb4)
        have HBU4 := Aside0.mk (show Lib.IsBuilderF 61 5 w.heap.size w1.heap.size (Lib.byteCells (linesC (c.take (k + 1)))) w4 from by rw [← HTB.out]; exact .inr hbu4)
        clear hbu4 hb4
        go_wp2_with fail
        go_roundg (c.length - (k + 1))
        case measure => omega
        case rel => exact ⟨k + 1, by omega, by omega, by go_num, HBU4, HB4⟩
      · have hltz : ¬ (k : Int) < (c.length : Int) := by omega
        have hke : k = c.length := by omega
        subst hke
        have HSZ3 : Aside0 (w.heap.size ≤ wr.heap.size) := ⟨HB.out.size⟩
        have HTK : Aside0 (linesC (c.take c.length) = out) := ⟨by rw [List.take_length, HF.out]⟩
        rw [HTK.out] at HBU
        go_wp2_with (go_at_call 26; refine (Tryd.Builder_String_any_k w.heap.size w1.heap.size out wr HBU.out HSZ3.out).mono ?_; rintro e w4 ⟨rfl, hbu4, hb4, hk4⟩)
        have HB4 := Aside0.mk (HB.out.trans hb4)
        clear hbu4 hb4 hk4
        go_ret
        exact ⟨rfl, HB4.out⟩
  · have hbf : listB c = false := by simpa using hb
    have HF : formatC c = [] := if_neg hb
    rw [hbf] at HL
    rw [HF]
    clear hb hbf HF
    go_enter Tryd.func9, Tryd.ntmps9
    go_wp2_with (go_at_call 19; refine HL.out.mono ?_; rintro e w1 ⟨rfl, hb1⟩)
    go_ret
    exact ⟨rfl, hb1⟩
theorem str_append {a b : ByteArray} {l m : List UInt8} (h : a.data.toList = l) (k : b.data.toList = m) : (a ++ b).data.toList = l ++ m := by
  rw [ByteArray.data_append, Array.toList_append, h, k]
set_option maxHeartbeats 4000000 in
set_option maxRecDepth 100000 in
theorem refFormat_any (A0 : Option Addr) (c0 : Nat) (c : List S36) (w : World) (hr : Kd.C k36 w A0 c.length c) (hc : c.length ≤ c0) (hT : Tab w) (hrl : ∀ x ∈ c, x.f0.length ≤ 9223372036854775807) :
    Calls Tryd.prog 10 #[.slice A0 c.length c0] w fun e w' => e = .returned (.string ⟨(formatC c).toArray⟩) ∧ Below w.heap.size w w' := by
  have hu := Tryd.underlying36
  obtain ⟨kk, hkk⟩ := (refWritten c hr.2.1 hrl).rounds
  have HL := Aside0.mk (lightsieveref07_written.calls kk A0 c0 c (listB c) w hr hc hkk)
  clear hkk
  by_cases hb : listB c = true
  · have HF : Aside0 (formatC c = linesC c) := ⟨if_pos hb⟩
    have HOK := Aside0.mk (listB_ok hb)
    rw [hb] at HL
    have hlen : c.length ≤ 30 := (listB_ok hb).1
    have HR := Aside0.mk hr
    have HT := Aside0.mk hT
    have HC := Aside0.mk hc
    clear hb hr hT hc hrl
    generalize formatC c = out at *
    go_enter Tryd.func10, Tryd.ntmps10
    go_wp2_with (go_at_call 22; refine HL.out.mono ?_; rintro e w1 ⟨rfl, hb1⟩)
    have HB1 := Aside0.mk hb1
    have HS1 := Aside0.mk hb1.size
    clear hb1 HL
    go_loopg [3, 11] c.length (fun gg s3 s11 wr => ∃ (k : Nat) (sb : ByteArray), k ≤ c.length ∧ c.length - k ≤ gg ∧ s11 = .int .i64 k ∧ s3 = .string sb ∧ Aside0 (sb.data.toList = linesC (c.take k)) ∧ Aside0 (Below w.heap.size w wr))
    case atStart => exact ⟨0, ⟨#[]⟩, by omega, by omega, by go_num, rfl, ⟨rfl⟩, HB1⟩
    case round =>
      obtain ⟨k, sb, hk, hg, rfl, rfl, HSB, HB⟩ := hrel
      by_cases hlt : k < c.length
      · have hltz : (k : Int) < (c.length : Int) := by omega
        obtain ⟨ad, A1, c1, e1, g0, g1, g2, hc1, hr1⟩ := at_T36 HR.out (k : Int) (by omega) hltz
        cases e1
        rw [Int.toNat_natCast] at g0 g1 g2
        have hmem : rd_T36 c (k : Int) ∈ c := by rw [rd_at]; exact mem_getD c _ k hlt
        obtain ⟨x, hx⟩ : ∃ x, rd_T36 c (k : Int) = x := ⟨_, rfl⟩
        rw [hx] at g0 g1 g2 hc1 hr1 hmem
        have HOX := Aside0.mk (HOK.out.2 x hmem)
        have HTK : Aside0 (linesC (c.take (k + 1)) = linesC (c.take k) ++ (lineB x.f0 x.f1 x.f2 ++ [10])) := ⟨by rw [take_snoc hlt, linesC_snoc, ← rd_at, hx]; rfl⟩
        have HLT : Aside0 ((linesC (c.take k)).length ≤ 600) := ⟨by
          have := linesC_len (c.take k) (fun y hy => HOK.out.2 y (List.mem_of_mem_take hy))
          have e : (c.take k).length = k := by simp; omega
          rw [e] at this
          omega⟩
        have hsb : sb.size ≤ 600 := by
          have e : sb.size = sb.data.toList.length := by rw [Array.length_toList]; rfl
          rw [e, HSB.out]
          exact HLT.out
        have HR1 := Aside0.mk hr1
        have HC1 := Aside0.mk hc1
        replace g0 := (HB.out.cell (World.block_lt_of_cell? w _ g0)).trans g0
        replace g1 := (HB.out.cell (World.block_lt_of_cell? w _ g1)).trans g1
        replace g2 := (HB.out.cell (World.block_lt_of_cell? w _ g2)).trans g2
        clear hr1 hc1 hmem hx
        go_wp2_with (first
          | ((with_reducible refine gate_dst (N := 5) rfl ?_); refine box_event ?hg (N := 5) ?hd (cs := #[.slice none 0 0, .int .i64 0, .int .i64 0]) (t := 36) ?hr ?_; (case hd => rfl); (case hg => rfl); (case hr => first | (go_simp; done) | (go_simp; rfl)); intro gb hgb w10 hbox hb; have HX := Aside0.mk (And.intro hgb (And.intro hbox hb)); have hcz0 : w10.cell? ⟨gb, 0, none⟩ = some (.slice none 0 0) := (blk_cell hbox 0).trans rfl; have hcz1 : w10.cell? ⟨gb, 1, none⟩ = some (.int .i64 0) := (blk_cell hbox 1).trans rfl; have hcz2 : w10.cell? ⟨gb, 2, none⟩ = some (.int .i64 0) := (blk_cell hbox 2).trans rfl; have hfz0 := blk_frozen hbox 0; have hfz1 := blk_frozen hbox 1; have hfz2 := blk_frozen hbox 2; clear hgb hbox hb))
        have HW2 : Aside0 (Below wr.heap.size wr (((w10.setCell ⟨gb, 0, none⟩ (.slice A1 x.f0.length c1)).setCell ⟨gb, 1, none⟩ (.int .i64 x.f1)).setCell ⟨gb, 2, none⟩ (.int .i64 x.f2))) := ⟨below_set (below_set (below_set HX.out.2.2 (Nat.le_of_eq HX.out.1.symm)) (Nat.le_of_eq HX.out.1.symm)) (Nat.le_of_eq HX.out.1.symm)⟩
        clear hcz0 hcz1 hcz2 hfz0 hfz1 hfz2 g0 g1 g2 HX
        generalize (((w10.setCell ⟨gb, 0, none⟩ (.slice A1 x.f0.length c1)).setCell ⟨gb, 1, none⟩ (.int .i64 x.f1)).setCell ⟨gb, 2, none⟩ (.int .i64 x.f2)) = w11 at *
        have HB2 := Aside0.mk (below_step HB.out HW2.out)
        refine (line_any A1 c1 x.f0 x.f1 x.f2 w11 (Kd.C_below HR1.out HB2.out) HC1.out (by have := HOX.out.2.1; omega) HOX.out.2.2 (HT.out.below HB2.out (Nat.le_refl _))).mono ?_
        rintro e w3 ⟨rfl, hb3⟩
        have HB3 := Aside0.mk (below_step HB2.out hb3)
        clear hb3
        have hsl : (ByteArray.mk (lineB x.f0 x.f1 x.f2).toArray).size ≤ 100 := by
          have h1 := line_len HOX.out.2.2
          have h3 := HOX.out.2.1
          show (lineB x.f0 x.f1 x.f2).toArray.size ≤ _
          simp only [List.size_toArray]
          omega
        have HSL : Aside0 ((ByteArray.mk (lineB x.f0 x.f1 x.f2).toArray).data.toList = lineB x.f0 x.f1 x.f2) := ⟨rfl⟩
        generalize (ByteArray.mk (lineB x.f0 x.f1 x.f2).toArray) = lb at *
        have e1 : (ByteArray.mk #[10]).size = 1 := rfl
        have n1 : ¬ 9223372036854775807 < lb.size + 1 := by omega
        have n2 : ¬ 9223372036854775807 < sb.size + (lb.size + 1) := by omega
        go_wp2_with fail
        go_roundg (c.length - (k + 1))
        case measure => omega
        case rel => exact ⟨k + 1, _, by omega, by omega, by go_num, rfl, ⟨by rw [str_append HSB.out (str_append HSL.out rfl), HTK.out]⟩, HB3⟩
      · have hltz : ¬ (k : Int) < (c.length : Int) := by omega
        have hke : k = c.length := by omega
        subst hke
        rw [List.take_length, ← HF.out] at HSB
        go_wp2_with fail
        go_ret
        exact ⟨by rw [show sb = (ByteArray.mk out.toArray) from bytes_eq (by rw [HSB.out])]; rfl, HB.out⟩
  · have hbf : listB c = false := by simpa using hb
    have HF : formatC c = [] := if_neg hb
    rw [hbf] at HL
    rw [HF]
    clear hb hbf HF hrl hr
    go_enter Tryd.func10, Tryd.ntmps10
    go_wp2_with (go_at_call 22; refine HL.out.mono ?_; rintro e w1 ⟨rfl, hb1⟩)
    go_ret
    exact ⟨rfl, hb1⟩
end Go.Proofs.YthmfgbjimdondaaDoor.P
