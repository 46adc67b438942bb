/-
  Walks: a content cut in parts (slices.Chunk's iterator and its caller).
-/
import Derived.RangeFuncBox
import Derived.RangeFuncLeaves
import Derived.RangeFuncBound
import Derived.Shelf.Abstract
import Derived.WalkKit
import Derived.OwnWalkIn
import Derived.TacticsInMore
import Derived.LoopNIn
import Derived.LoopIn
import Derived.Maps.AppendAt
import Derived.Sort.QuietIn
import Derived.Test.YtgdjfijkbemkeaaEtW
namespace Go.Proofs.Ytgdjfijkbemkeaa
open Go.RowKit Go.Shelf
set_option maxHeartbeats 2000000
set_option maxRecDepth 20000
set_option linter.unusedVariables false
attribute [local go_sem] Oper.semAt_some

/-- '[]byte(s)' in a fenced walk -/
theorem kin_bytes {F : Fence} {n : Nat} {P : Program} {ops : Array Oper} {rest : List Oper} {o : Oper} {a : Act} {w : World} {Q : Exit → Act → World → Prop}
    (hgd : o.guard = none) (src dst e : TypeId) (x : Operand) (ho : o.op = .convert src dst x) (hs : P.underlying src = some .string) (hd : P.underlying dst = some (.slice e)) (he : P.underlying e = some (.int .u8))
    (s : ByteArray) (hx : a.eval x = .string s)
    (h : ∀ c w', s.size ≤ c → Below w.heap.size w w' → w.heap.size < w'.heap.size → (∃ (arr : Array Value) (c2 : Nat × Nat), w'.heap[w.heap.size]? = some (.cells arr e c2) ∧ ∀ (j : Nat) (u : UInt8), s.data.toList[j]? = some u → arr[j]? = some (Value.int .u8 (u.toNat : Int))) →
      (∀ B t v, Boxed w B t v → Boxed w' B t v) →
      wpListIn F n P ops Q rest (a.put o.dst (.slice (some ⟨w.heap.size, 0, none⟩) s.size c)) w') : wpListIn F n P ops Q (o :: rest) a w := by
  refine wpListIn_plain hgd fun K hK => ?_
  unfold Oper.wpIn
  refine ⟨by simp [Oper.about, ho], ?_⟩
  rw [Oper.semAt_plain F _ _ (by rw [ho]; intro c hc; cases hc)]
  unfold execOp
  rw [ho]
  dsimp only
  rw [hx, Sem.run_bind, run_bytes_of_string w src dst e s hs hd he]
  simp only [Result.andThen_ok]
  refine hK _ _ (h (grownCap w s.size 0 e) _ (grownCap_ge _ _ _ _) (((Below.refl _ _).drew).alloc (Nat.le_refl _) _) (by rw [World.size_alloc]; exact Nat.lt_succ_self _) ?_ fun B t v hb => ?_)
  · have hblk := World.alloc_heap_new w.drew (Obj.cells (bytesRow s (grownCap w s.size 0 e)) e ((bytesRow s (grownCap w s.size 0 e)).size, (bytesRow s (grownCap w s.size 0 e)).size + 1))
    refine ⟨_, _, hblk, fun j u hj => ?_⟩
    obtain ⟨hj1, hj2⟩ := List.getElem?_eq_some_iff.1 hj
    subst hj2
    have hj3 : j < s.data.size := by simpa using hj1
    have hj4 : j < s.size := hj3
    simp [bytesRow, hj4, Array.getElem?_append]
  · exact Boxed.alloc (W := w.drew) hb _

/-- two boxes are kept -/
def KpB (Bs Bn : Nat) (W W' : World) : Prop := (∀ v, Boxed W Bs 91 v → Boxed W' Bs 91 v) ∧ (∀ v, Boxed W Bn 3 v → Boxed W' Bn 3 v)
theorem KpB.trans {Bs Bn : Nat} {A B C : World} (h : KpB Bs Bn A B) (h' : KpB Bs Bn B C) : KpB Bs Bn A C := ⟨fun v x => h'.1 v (h.1 v x), fun v x => h'.2 v (h.2 v x)⟩
theorem KpB.put {Bs Bn : Nat} (W : World) (l : Nat) (o o' : Obj) (ho : W.heap[l]? = some o) (hc : o.isCells = false) : KpB Bs Bn W (W.putObj l o') := by
  have h : ∀ B t v, Boxed W B t v → Boxed (W.putObj l o') B t v := fun B t v hb => hb.kept (grownBy_putObj' W l o') (fun e => by
    obtain rfl : B = l := by simpa using e
    rw [show W.heap[B]? = _ from hb] at ho; cases ho; cases hc)
  exact ⟨fun v => h _ _ _, fun v => h _ _ _⟩
theorem KpB.app {Bs Bn B0 n₀ k : Nat} {W w1 : World} {v v' : Value} {xs : List Value} {tmp : Obj} (hne : Bs ≠ B0 ∧ Bn ≠ B0) (hrow : W.ownsRow n₀ 9 1 v k xs) (hgrow : (W.alloc tmp).grownBy w1 v.ownBlock) :
    KpB Bs Bn W (w1.setCell ⟨B0, 0, none⟩ v') := by
  have h : ∀ B t v, t ≠ 9 → B ≠ B0 → Boxed W B t v → Boxed (w1.setCell ⟨B0, 0, none⟩ v') B t v := fun B t v ht hn hb =>
    ((hb.alloc tmp).kept hgrow (hb.not_row ht hrow)).kept (grownBy_setCell' w1 B0 v') (by simpa using hn)
  exact ⟨fun v => h _ _ _ (by decide) hne.1, fun v => h _ _ _ (by decide) hne.2⟩

theorem blk_app {B B0 n₀ k : Nat} {W w1 : World} {v v' : Value} {xs : List Value} {tmp : Obj} {t e : TypeId} {arr : Array Value} {c : Nat × Nat} (hte : t ≠ e) (hne : B ≠ B0) (hb : W.heap[B]? = some (.cells arr t c)) (hrow : W.ownsRow n₀ e 1 v k xs) (hgrow : (W.alloc tmp).grownBy w1 v.ownBlock) :
    (w1.setCell ⟨B0, 0, none⟩ v').heap[B]? = some (.cells arr t c) := by
  have hlt := lt_of_block hb
  have h1 : (W.alloc tmp).heap[B]? = some (.cells arr t c) := ((World.grownBy_alloc W tmp none).block B hlt (by simp)).trans hb
  have h2 : w1.heap[B]? = some (.cells arr t c) := (hgrow.block B (lt_of_block h1) (by
    rcases hrow.2 with ⟨rfl, _⟩ | ⟨g, cap, cur, rfl, _, hgb, _⟩
    · simp [Value.ownBlock]
    · intro e'
      obtain rfl : B = g := by simpa [Value.ownBlock] using e'
      have := hb.symm.trans hgb
      simp at this
      exact hte this.2.1)).trans h1
  exact ((grownBy_setCell' w1 B0 v').block B (lt_of_block h2) (by simpa using hne)).trans h2

/-- a chunk's value -/
def chk (b n k : Nat) : Array Value := #[.slice (some ⟨b, 16 * k, none⟩) (min 16 (n - 16 * k)) (min 16 (n - 16 * k))]

theorem chunk1 (m : Nat) (hm : 1 ≤ m) (l Bs Bn b n cap : Nat) (hn : n ≤ 100000) (hcap : n ≤ cap) (J Jx : List Nat → World → Prop) (B0 : Nat) (hJ : AbidesFrom B0 J)
    (hY : ∀ pre x W, J pre W → pre.length < Em.np n → YieldAt Fence.wide (m - 1) Try.prog l (chk b n x) W fun e W' =>
      (e = .returned (.bool true) ∧ J (pre ++ [x]) W' ∧ KpB Bs Bn W W') ∨ (e = .returned (.bool false) ∧ Jx (pre ++ [x]) W'))
    (W : World) (hcs0 : Boxed W Bs 91 (.slice (some ⟨b, 0, none⟩) n cap)) (hcn0 : Boxed W Bn 3 (.int .i64 16)) (h0 : J [] W) :
    CallsIn Fence.wide m Try.prog 89 #[.func (.yield l) #[] #[], .pointer (some ⟨Bs, 0, none⟩), .pointer (some ⟨Bn, 0, none⟩)] W fun e W' => (∃ v, e = .returned v) ∧
      ((∃ ys, ys = List.range (Em.np n) ∧ J ys W') ∨ (∃ pre, True ∧ Jx pre W')) := by
  refine callsIn_of_wp Try.func89 rfl trivial ?_ rfl
  simp only [Try.ntmps89, List.size_toArray, List.length_cons, List.length_nil, Nat.reduceAdd, Nat.reduceSub, Array.replicate_succ, Array.replicate_zero, List.push_toArray, List.append_toArray, List.nil_append, List.cons_append]
  have hcs := hcs0.cell
  have hcn := hcn0.cell
  gi_wp2
  gi_loopw [4] (fun i wr => ∃ k : Nat, k ≤ Em.np n ∧ i = .int .i64 ((16 * k : Nat) : Int) ∧ J (List.range k) wr ∧ KpB Bs Bn W wr)
    (fun i _ => 16 * Em.np n + 16 - (intOf i).toNat)
  case atStart => exact ⟨0, Nat.zero_le _, rfl, h0, fun _ h => h, fun _ h => h⟩
  case round =>
    obtain ⟨k, hk, rfl, hJs, hnx⟩ := hrel
    have hcs' := (hnx.1 _ hcs0).cell
    have hcn' := (hnx.2 _ hcn0).cell
    have hnp : 16 * Em.np n < n + 16 := by unfold Em.np; omega
    have hnp2 : n ≤ 16 * Em.np n := by unfold Em.np; omega
    by_cases hlt : k < Em.np n
    · have hkn : 16 * k < n := by unfold Em.np at hlt; omega
      obtain ⟨r, hr⟩ : ∃ r, r = min 16 (n - 16 * k) := ⟨_, rfl⟩
      have hr1 : 1 ≤ r := by omega
      have hr2 : r ≤ 16 := by omega
      have hr3 : 16 * k + r ≤ n := by omega
      have hr4 : min (16 : Int) ((n - 16 * k : Nat) : Int) = (r : Int) := by omega
      have Hhr := Lib.hid hr
      have Hhr4 := Lib.hid hr4
      clear hr hr4
      gi_wp2
      gi_quiet (fail)
      rename_i nq
      rw [Hhr4.out]
      have hJ2 := hJ (List.range k) wr (wr.drewN nq) none hJs ⟨rfl, rfl, rfl, Nat.le_refl _, fun _ _ _ => rfl⟩ (by simp)
      obtain ⟨fn, tmps, assign, body, hy, hR⟩ := hY _ k (wr.drewN nq) hJ2 (by rw [List.length_range]; exact hlt)
      unfold chk at hy
      rw [← Hhr.out] at hy
      gi_wp2
      refine hR.mono ?_
      rintro e W3 (⟨rfl, hJ3, hk3⟩ | ⟨rfl, hJx3⟩)
      · have hb3 : KpB Bs Bn W W3 := hnx.trans ((show KpB Bs Bn wr (wr.drewN nq) from ⟨fun _ h => h, fun _ h => h⟩).trans hk3)
        have hcn3 := (hb3.2 _ hcn0).cell
        gi_wp2
        go_roundw
        case rel => exact ⟨k + 1, hlt, by congr 1, by rw [List.range_succ]; exact hJ3, hb3⟩
        case measure => simp [intOf]; omega
      · gi_wp2
        refine bodyPost_ret (results_none rfl _ _ _) rfl ?_
        exact ⟨⟨_, rfl⟩, .inr ⟨_, trivial, hJx3⟩⟩
    · obtain rfl : k = Em.np n := by omega
      gi_wp2
      go_end0
      exact ⟨⟨_, rfl⟩, .inl ⟨_, rfl, hJs⟩⟩

theorem chunk_stops (m : Nat) (hm : 1 ≤ m) (Bs Bn b n cap : Nat) (hn : n ≤ 100000) (hcap : n ≤ cap) (w : World)
    (hcs : Boxed w Bs 91 (.slice (some ⟨b, 0, none⟩) n cap)) (hcn : Boxed w Bn 3 (.int .i64 16)) :
    SeqStopsK Fence.wide m Try.prog 89 #[.pointer (some ⟨Bs, 0, none⟩), .pointer (some ⟨Bn, 0, none⟩)] (chk b n) (KpB Bs Bn) (fun ys => ys = List.range (Em.np n)) (fun _ => True) (Em.np n) w := fun l J Jx W hW hJ _ hY h0 =>
  chunk1 m hm l Bs Bn b n cap hn hcap J Jx _ hJ hY W ((hW.block Bs hcs.lt).trans hcs) ((hW.block Bn hcn.lt).trans hcn) h0

theorem chunk0 (a : Option Addr) (n c : Nat) (w : World) :
    Calls Try.prog 71 #[.slice a n c, .int .i64 16] w fun e w' => e = .returned (.func (.func 89) #[] #[.pointer (some ⟨w.heap.size, 0, none⟩), .pointer (some ⟨w.heap.size + 1, 0, none⟩)]) ∧ w' = (w.alloc (.cells #[.slice a n c] 91)).alloc (.cells #[.int .i64 16] 3) := by
  go_enter Try.func71, Try.ntmps71
  go_wp2
  go_ret
  exact ⟨rfl, rfl⟩

theorem keepsBlock_own {β : Type} (b : Nat) (arr : Array Value) (e : TypeId) (c : Nat × Nat) : Own (fun (_ : β) (W : World) => W.heap[b]? = some (.cells arr e c)) := by
  intro s X Y row h hg hrow
  refine (hg.block b (lt_of_block h) fun e' => ?_).trans h
  obtain ⟨o, ho, hc⟩ := hrow b e'.symm
  rw [h] at ho; cases ho; cases hc

theorem etagCut (s : ByteArray) (hs : s.size ≤ 100000) (w : World) :
    Calls Try.prog 40 #[.string s] w (RetS (pv (Em.parts s.data.toList)) w) := by
  obtain ⟨i0, hi0, hz0, hz1, hz2⟩ := info_parts info_str5
  refine (callsIn_wide (n := 3)).1 ?_
  refine callsIn_of_wp_marks Try.func40 rfl trivial ?_ rfl
  simp only [Try.ntmps40, List.size_toArray, List.length_cons, List.length_nil, Nat.reduceAdd, Nat.reduceSub, Array.replicate_succ, Array.replicate_zero, List.push_toArray, List.append_toArray, List.nil_append, List.cons_append]
  gi_wp2_with (first
    | (refine kin_bytes rfl 9 91 5 _ rfl Try.underlying9 Try.underlying91 Try.underlying5 s rfl ?_; intro cap w1 hcap hb1 hlt1 hrow1 hbox1; obtain ⟨arr, c2, hblk, harr⟩ := hrow1)
    | (refine ⟨trivial, ?_⟩; gi_at_call 71; refine (callsIn_wide.2 (chunk0 _ _ _ _)).mono ?_; rintro e w2 ⟨rfl, rfl⟩))
  have hsz0 : (w.alloc (Obj.cells #[Value.slice none 0 0] 42)).heap.size = w.heap.size + 1 := World.size_alloc _ _
  rw [hsz0] at hb1 hlt1 hblk
  have bO := hbox1 _ _ _ (Boxed.new w 42 (.slice none 0 0))
  have hB1 : Below w.heap.size w w1 := ((Below.refl _ w).alloc (Nat.le_refl _) _).trans (hb1.mono (by omega))
  obtain ⟨w3, hw3⟩ : ∃ w3, w3 = (w1.alloc (Obj.cells #[Value.slice (some ⟨w.heap.size + 1, 0, none⟩) s.size cap] 91)).alloc (Obj.cells #[Value.int .i64 16] 3) := ⟨_, rfl⟩
  have bS : Boxed w3 w1.heap.size 91 (.slice (some ⟨w.heap.size + 1, 0, none⟩) s.size cap) := by rw [hw3]; exact (Boxed.new w1 _ _).alloc _
  have bN : Boxed w3 (w1.heap.size + 1) 3 (.int .i64 16) := by
    rw [hw3]; have := Boxed.new (w1.alloc (Obj.cells #[Value.slice (some ⟨w.heap.size + 1, 0, none⟩) s.size cap] 91)) 3 (.int .i64 16); rwa [World.size_alloc] at this
  have bO3 : Boxed w3 w.heap.size 42 (.slice none 0 0) := by rw [hw3]; exact (bO.alloc _).alloc _
  have hB3 : Below w.heap.size w w3 := by rw [hw3]; exact (hB1.alloc hB1.size _).alloc (by rw [World.size_alloc]; have := hB1.size; omega) _
  have hsz3 : w3.heap.size = w1.heap.size + 2 := by rw [hw3, World.size_alloc, World.size_alloc]
  have hb13 : Below (w.heap.size + 2) w1 w3 := by rw [hw3]; exact ((Below.refl _ w1).alloc (by omega) _).alloc (by rw [World.size_alloc]; omega) _
  have hblk3 : w3.heap[w.heap.size + 1]? = some (.cells arr 5 c2) := (hb13.block _ (by omega)).trans hblk
  rw [← hw3]
  clear hw3 hb13 hblk hb1 bO hbox1
  obtain ⟨l, hl⟩ : ∃ l, l = s.data.toList := ⟨_, rfl⟩
  obtain ⟨n, hn⟩ : ∃ n, n = s.size := ⟨_, rfl⟩
  have hll : l.length = n := by rw [hl, hn]; rfl
  rw [← hl] at harr ⊢
  rw [← hn] at hs hcap bS ⊢
  have hx : Em.parts l = (List.range (Em.np n)).map (Em.part l) := by unfold Em.parts Em.partsTo; rw [hll]
  have Hhl := Lib.hid hl
  have Hhn := Lib.hid hn
  have Hhx := Lib.hid hx
  have Hhll := Lib.hid hll
  clear hl hn hx hll
  refine wpIn_rangeFunc_ownG rfl (by decide) (gf := 89) (lb := #[.pointer (some ⟨w1.heap.size, 0, none⟩), .pointer (some ⟨w1.heap.size + 1, 0, none⟩)]) rfl trivial (enters_of Try.func89 (by kernel_rfl) rfl)
    (chunk_stops (3 - 1) (by decide) w1.heap.size (w1.heap.size + 1) (w.heap.size + 1) n cap hs hcap w3 bS bN) KpB.trans (fun W l o o' _ ho hc _ => KpB.put W l o o' ho hc) (Below.refl _ _) (fun _ => rfl)
    (fun pre W => (∃ v, Boxed W w.heap.size 42 v ∧ W.ownsRow w.heap.size 9 1 v pre.length (pv (pre.map (Em.part l))) ∧ True) ∧ Below w.heap.size w W ∧ W.heap[w.heap.size + 1]? = some (.cells arr 5 c2))
    (fun _ _ _ => False)
    (OwnFrom.and (Own.from (holdsRow_own w.heap.size w.heap.size 42 9 1 (fun pre : List Nat => pre.length) (fun pre => pv (pre.map (Em.part l))) (fun pre v => True)) _) (OwnFrom.and (ownFrom_below (Nat.le_refl _) (by omega))
      ((keepsBlock_own (w.heap.size + 1) arr 5 c2).from _)))
    (fun _ _ _ _ _ hs _ _ => hs)
    ⟨⟨_, bO3, World.ownsRow_nil _ _ _ _, trivial⟩, hB3, hblk3⟩
    (fun x => { tmps := #[.string s, undef, .slice none 0 0, .pointer (some ⟨w.heap.size, 0, none⟩), .slice (some ⟨w.heap.size + 1, 16 * x, none⟩) (min 16 (n - 16 * x)) (min 16 (n - 16 * x)), .string s, .slice (some ⟨w.heap.size + 1, 0, none⟩) n cap, .func (.func 89) #[] #[.pointer (some ⟨w1.heap.size, 0, none⟩), .pointer (some ⟨w1.heap.size + 1, 0, none⟩)], .slice (some ⟨w.heap.size + 1, 16 * x, none⟩) (min 16 (n - 16 * x)) (min 16 (n - 16 * x)), undef, undef, undef, undef, undef, undef], defers := [] }) ?assign ?body ?done ?stop
  case assign =>
    intro l x W K hK
    unfold chk
    gi_wp2
    exact hK
  case body =>
    rintro l' pre x W ⟨⟨v, hv, hrow, _⟩, hB, hcells⟩ hlt
    have hc := hv.cell
    have hcv := run_convert_bytes_back (P := Try.prog) W 91 9 5 ⟨w.heap.size + 1, 16 * x, none⟩ (min 16 (n - 16 * x)) (Em.part l x) Try.underlying91 Try.underlying5 Try.underlying9 (fun j hj => by
      rw [Addr.add_mid, cell_of_row _ _ _ _ _ _ hcells]
      refine harr _ _ ?_
      have := List.getElem?_eq_getElem hj
      unfold Em.part at this ⊢
      rw [List.getElem?_take] at this
      split at this
      · rw [List.getElem?_drop] at this; exact this
      · cases this)
    have hpl : (Em.part l x).length = min 16 (n - 16 * x) := by unfold Em.part; rw [List.length_take, List.length_drop, Hhll.out]
    rw [hpl] at hcv
    have hpn : pre.length < 100000 := by unfold Em.np at hlt; omega
    obtain ⟨y, hy⟩ : ∃ y, y = min 16 (n - 16 * x) := ⟨_, rfl⟩
    rw [← hy] at hcv ⊢
    have Hhy := Lib.hid hy
    have Hhpl := Lib.hid hpl
    clear hy hpl
    gi_wp2_with (gi_at_builtin; refine wpListIn_append_own _ rfl _ _ 42 rfl w.heap.size 9 i0 (.string ⟨#[]⟩) 1 16 Try.underlying42 hi0 hz0 hz1 hz2 rfl (by decide) _ _ _ rfl (hrow.alloc _) ⟨W.heap.size, 0, none⟩ 1 1 [.string ⟨(Em.part l x).toArray⟩] rfl rfl (cell_one_new _ _ _) (by simp [Value.oneCell']) (by unfold maxLen; omega) (by omega) (by have := hB.size; simp; omega) ?_; intro v' w4 hown' hgrow _; obtain ⟨g', cap', rfl⟩ := ownsRow_succ hown'; obtain ⟨hv1, hv2, hr2, hk2, hb2⟩ := hv.appended (by decide) hrow hB.size (Nat.le_refl _) hown' hgrow; have hc1 := hv1.cell; have hf1 := hv1.frozen)
    exact ⟨hk2.from _, KpB.app ⟨by omega, by omega⟩ hrow hgrow, ⟨_, hv2, cast (by rw [List.map_append, pv_append, List.length_append]; rfl) hr2, trivial⟩, hB.trans hb2, blk_app (by decide) (by omega) hcells hrow hgrow⟩
  case done =>
    rintro D ys W hD rfl ⟨⟨v, hv, hrow, _⟩, hB, _⟩ hK
    have hc := hv.cell
    gi_wp2
    refine ⟨by simp, .inl ⟨_, _, rfl, run_takeDeferred hK, ?_⟩⟩
    have hl1 : w.heap.size ≤ D := by have := hB3.size; omega
    rw [← Hhl.out, Hhx.out]
    exact ⟨_, results_tmp rfl _ _ _, _, _, rfl, rd_of_own (ownsRow_putObj hrow _ hK rfl), hB.trans (belowK_b (w := w) (Nat.le_refl _) W D _ _ hl1 hK rfl rfl)⟩
  case stop =>
    rintro D c pre W _ _ h _
    exact h.elim
end Go.Proofs.Ytgdjfijkbemkeaa
