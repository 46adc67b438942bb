/-
  Walk: a loop of the reference's Of.
-/
import Derived.Test.YtgdjfijkbemkeaaShaI0
namespace Go.Proofs.Ytgdjfijkbemkeaa
open Go.RowKit
set_option maxHeartbeats 8000000
set_option maxRecDepth 100000
set_option linter.unusedVariables false

theorem refLoop64 {x0 x1 x2 x3 x5 x6 x8 x9 x10 x11 x21 x22 x23 x24 x25 x26 x27 x28 x29 x30 x31 x32 x33 x34 x35 x36 x37 x38 x39 x40 x41 x42 x43 x44 x45 x46 x47 x48 x49 x50 x51 x52 x53 x54 x55 x56 x57 x58 x59 x60 x61 x62 x63 x64 x65 x66 x67 x68 x69 x70 x71 x72 x73 x74 x75 x76 x77 x78 x79 x80 x81 x82 x83 x84 x85 x86 x87 x88 x89 x90 x91 x92 x93 x94 x95 x96 x97 x98 x99 x100 x101 x102 x103 x104 x105 x106 x107 x108 x109 x110 x111 x112 x113 x114 x115 x116 x117 x118 x119 x120 x121 x122 x123 x124 x125 x126 x127 x128 x129 x130 x131 x132 x133 x134 x135 x136 x137 x138 x139 x140 x141 x142 x143 x144 x145 x146 x147 x148 x149 x150 x151 x152 x153 x154 x155 x156 x157 x158 x159 x160 x161 x162 x163 x164 x165 x166 x167 x168 x169 x170 x171 x172 x173 x174 x175 x176 x177 x178 x179 x180 x181 x182 x183 x184 x185 x186 x187 x188 x189 x190 x191 x192 x193 x194 x195 x196 x197 x198 x199 x200 x201 x202 x203 x204 x205 x206 x207 x208 x209 x210 x211 x212 x213 x214 x215 x216 x217 x218 x219 x220 x221 x222 x223 x224 x225 x226 x227 x228 x229 x230 x231 x232 x233 x234 x235 x236 x237 x238 x239 x240 x241 x242 x243 x244 x245 x246 x247 x248 x249 x250 x251 x252 x253 x254 x255 x256 x257 x258 x259 x260 x261 x262 : Value} (S : Sm.St) (W : List Nat) (kb ab ac B0 : Nat) (w w8 : World) (HS : Hid S.ok) (HWL : Hid (∀ j, W.getD j 0 < 4294967296)) (HC1 : Hid (∀ t, t < 64 → w8.cell? ⟨ab, t, none⟩ = some (.int .u32 ((W.getD t 0 : Nat) : Int)))) (GK3 : Hid (w8.heap[kb]? = some (.cells (wArr Sm.kT) 93 (0, 0)))) (GH3 : Hid (w8.heap[kb + 1]? = some (.cells (stA S) 44 (0, 0)))) (GD3 : Hid (w8.heap[B0]? = some (.cells (dArr []) 50 (0, 0)))) (hb3 : Below B0 w w8)
    (Q : Exit → Act → World → Prop)
    (hK : ∀ (y20 y21 y22 y159 y160 y161 y162 y163 y164 y165 y166 y167 y168 y169 y170 y171 y172 y173 y174 y175 y176 y177 y178 y179 y180 y181 y182 y183 y184 y185 y186 y187 y188 y189 y190 y191 y192 y193 y194 y195 y196 y197 y198 y199 y200 y201 y202 y203 y204 y205 y206 y207 y208 y209 y210 y211 y212 y213 y214 y215 y216 y217 y218 y219 y220 y221 y222 : Value) (a b c d e f g z : Nat) (wk : World), (Hid (Sm.rnds S Sm.kT W 64 = ⟨a, b, c, d, e, f, g, z⟩) ∧ Hid (wk.heap[kb]? = some (.cells (wArr Sm.kT) 93 (0, 0))) ∧ Hid (wk.heap[kb + 1]? = some (.cells (stA S) 44 (0, 0))) ∧ Hid (wk.heap[B0]? = some (.cells (dArr []) 50 (0, 0))) ∧ Below B0 w wk) → Q (.exit 6) ⟨List.toArray (x0 :: x1 :: x2 :: x3 :: .pointer (some ⟨kb, 0, none⟩) :: x5 :: x6 :: .slice (some ⟨ab, 0, none⟩) 64 ac :: x8 :: x9 :: x10 :: x11 :: .int .u32 (a : Int) :: .int .u32 (b : Int) :: .int .u32 (c : Int) :: .int .u32 (d : Int) :: .int .u32 (e : Int) :: .int .u32 (f : Int) :: .int .u32 (g : Int) :: .int .u32 (z : Int) :: y20 :: y21 :: y22 :: x23 :: x24 :: x25 :: x26 :: x27 :: x28 :: x29 :: x30 :: x31 :: x32 :: x33 :: x34 :: x35 :: x36 :: x37 :: x38 :: x39 :: x40 :: x41 :: x42 :: x43 :: x44 :: x45 :: x46 :: x47 :: x48 :: x49 :: x50 :: x51 :: x52 :: x53 :: x54 :: x55 :: x56 :: x57 :: x58 :: x59 :: x60 :: x61 :: x62 :: x63 :: x64 :: x65 :: x66 :: x67 :: x68 :: x69 :: x70 :: x71 :: x72 :: x73 :: x74 :: x75 :: x76 :: x77 :: x78 :: x79 :: x80 :: x81 :: x82 :: x83 :: x84 :: x85 :: x86 :: x87 :: x88 :: x89 :: x90 :: x91 :: x92 :: x93 :: x94 :: x95 :: x96 :: x97 :: x98 :: x99 :: x100 :: x101 :: x102 :: x103 :: x104 :: x105 :: x106 :: x107 :: x108 :: x109 :: x110 :: x111 :: x112 :: x113 :: x114 :: x115 :: x116 :: x117 :: x118 :: x119 :: x120 :: x121 :: x122 :: x123 :: x124 :: x125 :: x126 :: x127 :: x128 :: x129 :: x130 :: x131 :: x132 :: x133 :: x134 :: x135 :: x136 :: x137 :: x138 :: x139 :: x140 :: x141 :: x142 :: x143 :: x144 :: x145 :: x146 :: x147 :: x148 :: x149 :: x150 :: x151 :: x152 :: x153 :: x154 :: x155 :: x156 :: x157 :: x158 :: y159 :: y160 :: y161 :: y162 :: y163 :: y164 :: y165 :: y166 :: y167 :: y168 :: y169 :: y170 :: y171 :: y172 :: y173 :: y174 :: y175 :: y176 :: y177 :: y178 :: y179 :: y180 :: y181 :: y182 :: y183 :: y184 :: y185 :: y186 :: y187 :: y188 :: y189 :: y190 :: y191 :: y192 :: y193 :: y194 :: y195 :: y196 :: y197 :: y198 :: y199 :: y200 :: y201 :: y202 :: y203 :: y204 :: y205 :: y206 :: y207 :: y208 :: y209 :: y210 :: y211 :: y212 :: y213 :: y214 :: y215 :: y216 :: y217 :: y218 :: y219 :: y220 :: y221 :: y222 :: x223 :: x224 :: x225 :: x226 :: x227 :: x228 :: x229 :: x230 :: x231 :: x232 :: x233 :: x234 :: x235 :: x236 :: x237 :: x238 :: x239 :: x240 :: x241 :: x242 :: x243 :: x244 :: x245 :: x246 :: x247 :: x248 :: x249 :: x250 :: x251 :: x252 :: x253 :: x254 :: x255 :: x256 :: x257 :: x258 :: x259 :: x260 :: x261 :: x262 :: []), []⟩ wk) :
    Code.wp Try.prog (Code.loop (lpOf 3)) Q ⟨List.toArray (x0 :: x1 :: x2 :: x3 :: .pointer (some ⟨kb, 0, none⟩) :: x5 :: x6 :: .slice (some ⟨ab, 0, none⟩) 64 ac :: x8 :: x9 :: x10 :: x11 :: .int .u32 (S.a : Int) :: .int .u32 (S.b : Int) :: .int .u32 (S.c : Int) :: .int .u32 (S.d : Int) :: .int .u32 (S.e : Int) :: .int .u32 (S.f : Int) :: .int .u32 (S.g : Int) :: .int .u32 (S.h : Int) :: .int .i64 0 :: x21 :: x22 :: x23 :: x24 :: x25 :: x26 :: x27 :: x28 :: x29 :: x30 :: x31 :: x32 :: x33 :: x34 :: x35 :: x36 :: x37 :: x38 :: x39 :: x40 :: x41 :: x42 :: x43 :: x44 :: x45 :: x46 :: x47 :: x48 :: x49 :: x50 :: x51 :: x52 :: x53 :: x54 :: x55 :: x56 :: x57 :: x58 :: x59 :: x60 :: x61 :: x62 :: x63 :: x64 :: x65 :: x66 :: x67 :: x68 :: x69 :: x70 :: x71 :: x72 :: x73 :: x74 :: x75 :: x76 :: x77 :: x78 :: x79 :: x80 :: x81 :: x82 :: x83 :: x84 :: x85 :: x86 :: x87 :: x88 :: x89 :: x90 :: x91 :: x92 :: x93 :: x94 :: x95 :: x96 :: x97 :: x98 :: x99 :: x100 :: x101 :: x102 :: x103 :: x104 :: x105 :: x106 :: x107 :: x108 :: x109 :: x110 :: x111 :: x112 :: x113 :: x114 :: x115 :: x116 :: x117 :: x118 :: x119 :: x120 :: x121 :: x122 :: x123 :: x124 :: x125 :: x126 :: x127 :: x128 :: x129 :: x130 :: x131 :: x132 :: x133 :: x134 :: x135 :: x136 :: x137 :: x138 :: x139 :: x140 :: x141 :: x142 :: x143 :: x144 :: x145 :: x146 :: x147 :: x148 :: x149 :: x150 :: x151 :: x152 :: x153 :: x154 :: x155 :: x156 :: x157 :: x158 :: x159 :: x160 :: x161 :: x162 :: x163 :: x164 :: x165 :: x166 :: x167 :: x168 :: x169 :: x170 :: x171 :: x172 :: x173 :: x174 :: x175 :: x176 :: x177 :: x178 :: x179 :: x180 :: x181 :: x182 :: x183 :: x184 :: x185 :: x186 :: x187 :: x188 :: x189 :: x190 :: x191 :: x192 :: x193 :: x194 :: x195 :: x196 :: x197 :: x198 :: x199 :: x200 :: x201 :: x202 :: x203 :: x204 :: x205 :: x206 :: x207 :: x208 :: x209 :: x210 :: x211 :: x212 :: x213 :: x214 :: x215 :: x216 :: x217 :: x218 :: x219 :: x220 :: x221 :: x222 :: x223 :: x224 :: x225 :: x226 :: x227 :: x228 :: x229 :: x230 :: x231 :: x232 :: x233 :: x234 :: x235 :: x236 :: x237 :: x238 :: x239 :: x240 :: x241 :: x242 :: x243 :: x244 :: x245 :: x246 :: x247 :: x248 :: x249 :: x250 :: x251 :: x252 :: x253 :: x254 :: x255 :: x256 :: x257 :: x258 :: x259 :: x260 :: x261 :: x262 :: []), []⟩ w8 := by
  conv => arg 2; arg 1; whnf
  go_loopw [12, 13, 14, 15, 16, 17, 18, 19, 20] (fun av bv cv dv ev fv gv zv iv wr => ∃ (i a b c d e f g z : Nat), i ≤ 64 ∧ iv = .int .i64 (i : Int) ∧ av = .int .u32 (a : Int) ∧ bv = .int .u32 (b : Int) ∧ cv = .int .u32 (c : Int) ∧ dv = .int .u32 (d : Int) ∧ ev = .int .u32 (e : Int) ∧ fv = .int .u32 (f : Int) ∧ gv = .int .u32 (g : Int) ∧ zv = .int .u32 (z : Int) ∧
                  Hid (Sm.rnds S Sm.kT W i = ⟨a, b, c, d, e, f, g, z⟩) ∧ Hid (∀ t, t < 64 → wr.cell? ⟨ab, t, none⟩ = some (.int .u32 ((W.getD t 0 : Nat) : Int))) ∧ Hid (wr.heap[kb]? = some (.cells (wArr Sm.kT) 93 (0, 0))) ∧ Hid (wr.heap[kb + 1]? = some (.cells (stA S) 44 (0, 0))) ∧
                  Hid (wr.heap[B0]? = some (.cells (dArr []) 50 (0, 0))) ∧ Below B0 w wr) (fun _ _ _ _ _ _ _ _ iv _ => 64 - (intOf iv).toNat)
  case atStart => exact ⟨0, S.a, S.b, S.c, S.d, S.e, S.f, S.g, S.h, by omega, rfl, rfl, rfl, rfl, rfl, rfl, rfl, rfl, rfl, by rw [Sm.rnds_zero]; rfl, HC1, GK3, GH3, GD3, hb3⟩
  case round =>
    clear HC1 GK3 GH3 GD3 hb3
    obtain ⟨i, a, b, c, d, e, f, g, z, hi, rfl, rfl, rfl, rfl, rfl, rfl, rfl, rfl, rfl, HR, HC, GK, GH, GD, hb⟩ := hrel
    by_cases hi64 : i < 64
    · clear hK
      have hokk := Sm.rnds_ok S Sm.kT W HS.out i
      rw [HR.out] at hokk
      obtain ⟨la, lb, lc, ld, le, lf, lg, lz⟩ := hokk
      dsimp only at la lb lc ld le lf lg lz
      have hk0 : wr.cell? ⟨kb, i, none⟩ = some (.int .u32 ((Sm.kT.getD i 0 : Nat) : Int)) := by
        rw [cell_of_row _ _ _ _ _ _ GK.out, wArr_get _ _ hi64]
      have hw0 := HC.out i hi64
      have hwl := HWL.out i
      have hkl : Sm.kT.getD i 0 < 4294967296 := kT_lt i
      have hrs := Sm.rnds_succ S Sm.kT W i
      rw [HR.out] at hrs
      generalize Sm.kT.getD i 0 = K at *
      generalize W.getD i 0 = x at *
      have q1 : ∀ wx, Calls Try.prog 64 #[.int .u32 e, .int .u64 6] wx fun e' w' => e' = .returned (.int .u32 (Sm.rr e 6 : Nat)) ∧ w' = wx := fun wx => refRight e 6 le (by decide) (by decide) wx
      have q2 : ∀ wx, Calls Try.prog 64 #[.int .u32 e, .int .u64 11] wx fun e' w' => e' = .returned (.int .u32 (Sm.rr e 11 : Nat)) ∧ w' = wx := fun wx => refRight e 11 le (by decide) (by decide) wx
      have q3 : ∀ wx, Calls Try.prog 64 #[.int .u32 e, .int .u64 25] wx fun e' w' => e' = .returned (.int .u32 (Sm.rr e 25 : Nat)) ∧ w' = wx := fun wx => refRight e 25 le (by decide) (by decide) wx
      have q4 : ∀ wx, Calls Try.prog 64 #[.int .u32 a, .int .u64 2] wx fun e' w' => e' = .returned (.int .u32 (Sm.rr a 2 : Nat)) ∧ w' = wx := fun wx => refRight a 2 la (by decide) (by decide) wx
      have q5 : ∀ wx, Calls Try.prog 64 #[.int .u32 a, .int .u64 13] wx fun e' w' => e' = .returned (.int .u32 (Sm.rr a 13 : Nat)) ∧ w' = wx := fun wx => refRight a 13 la (by decide) (by decide) wx
      have q6 : ∀ wx, Calls Try.prog 64 #[.int .u32 a, .int .u64 22] wx fun e' w' => e' = .returned (.int .u32 (Sm.rr a 22 : Nat)) ∧ w' = wx := fun wx => refRight a 22 la (by decide) (by decide) wx
      have g1 : Sm.sig e 6 11 25 false = (Sm.rr e 6 ^^^ Sm.rr e 11) ^^^ Sm.rr e 25 := rfl
      have g2 : Sm.sig a 2 13 22 false = (Sm.rr a 2 ^^^ Sm.rr a 13) ^^^ Sm.rr a 22 := rfl
      have l1 := Sm.rr_lt e 6 le (by decide)
      have l2 := Sm.rr_lt e 11 le (by decide)
      have l3 := Sm.rr_lt e 25 le (by decide)
      have l4 := Sm.rr_lt a 2 la (by decide)
      have l5 := Sm.rr_lt a 13 la (by decide)
      have l6 := Sm.rr_lt a 22 la (by decide)
      have o1 := Sm.bxor32 _ _ l1 l2
      have o2 := Sm.bxor32 _ _ (Sm.xor_lt32 _ _ l1 l2) l3
      have o3 := Sm.bxor32 _ _ l4 l5
      have o4 := Sm.bxor32 _ _ (Sm.xor_lt32 _ _ l4 l5) l6
      rw [← g1] at o2
      rw [← g2] at o4
      have ls1 := Sm.sig_lt e 6 11 25 false le (by decide) (by decide) (by decide)
      have ls2 := Sm.sig_lt a 2 13 22 false la (by decide) (by decide) (by decide)
      have lch := Sm.ch_lt e f g le
      have lmj := Sm.maj_lt a b c la lc
      have o5 := Sm.band32 e f le lf
      have o6 := Sm.band32 (4294967295 - e) g (by omega) lg
      rw [show ((4294967295 - e : Nat) : Int) = 4294967295 - (e : Int) by omega] at o6
      have o7 := Sm.bxor32 (e &&& f) ((4294967295 - e) &&& g) (Sm.and_lt32 _ _ le) (Sm.and_lt32 _ _ (by omega))
      rw [Sm.ch_xor e f g le lf lg] at o7
      have o8 := Sm.band32 a b la lb
      have o9 := Sm.band32 a c la lc
      have o10 := Sm.band32 b c lb lc
      have o11 := Sm.bxor32 (a &&& b) (a &&& c) (Sm.and_lt32 _ _ la) (Sm.and_lt32 _ _ la)
      have o12 := Sm.bxor32 ((a &&& b) ^^^ (a &&& c)) (b &&& c) (Sm.xor_lt32 _ _ (Sm.and_lt32 _ _ la) (Sm.and_lt32 _ _ la)) (Sm.and_lt32 _ _ lb)
      rw [Sm.maj_xor] at o12
      unfold Sm.rnd at hrs
      dsimp only at hrs
      clear g1 g2
      generalize Sm.ch e f g = CH at *
      generalize Sm.maj a b c = MJ at *
      generalize Sm.sig e 6 11 25 false = S1 at *
      generalize Sm.sig a 2 13 22 false = S0 at *
      generalize (a &&& b) ^^^ (a &&& c) = y1 at *
      generalize a &&& b = y2 at *
      generalize a &&& c = y3 at *
      generalize b &&& c = y4 at *
      generalize (4294967295 - e) &&& g = y5 at *
      generalize e &&& f = y6 at *
      generalize Sm.rr e 6 ^^^ Sm.rr e 11 = y7 at *
      generalize Sm.rr a 2 ^^^ Sm.rr a 13 = y8 at *
      generalize Sm.rr e 6 = r1 at *
      generalize Sm.rr e 11 = r2 at *
      generalize Sm.rr e 25 = r3 at *
      generalize Sm.rr a 2 = r4 at *
      generalize Sm.rr a 13 = r5 at *
      generalize Sm.rr a 22 = r6 at *
      obtain ⟨X, hX⟩ : ∃ X, X = (x + (z + S1 + CH + K)) % 4294967296 := ⟨_, rfl⟩
      obtain ⟨Y, hY⟩ : ∃ Y, Y = (S0 + MJ) % 4294967296 := ⟨_, rfl⟩
      have w1 : IntKind.u32.wrap (IntKind.u32.wrap (IntKind.u32.wrap (IntKind.u32.wrap ((z : Int) + S1) + CH) + K) + x) = (X : Int) := by
        simp only [IntKind.wrap_u32]; omega
      have w2 : IntKind.u32.wrap ((S0 : Int) + MJ) = (Y : Int) := by
        simp only [IntKind.wrap_u32]; omega
      have lX : X < 4294967296 := by omega
      have lY : Y < 4294967296 := by omega
      rw [← hX, ← hY] at hrs
      have hz1 : IntKind.u32.wrap ((X : Int) + Y) = (((X + Y) % 4294967296 : Nat) : Int) := by rw [IntKind.wrap_u32]; omega
      have hz2 : IntKind.u32.wrap ((d : Int) + X) = (((d + X) % 4294967296 : Nat) : Int) := by rw [IntKind.wrap_u32]; omega
      have Hhrs := Lib.hid hrs
      have Hq1 := Lib.hid q1
      have Hq2 := Lib.hid q2
      have Hq3 := Lib.hid q3
      have Hq4 := Lib.hid q4
      have Hq5 := Lib.hid q5
      have Hq6 := Lib.hid q6
      have Ho1 := Lib.hid o1
      have Ho2 := Lib.hid o2
      have Ho3 := Lib.hid o3
      have Ho4 := Lib.hid o4
      have Ho5 := Lib.hid o5
      have Ho6 := Lib.hid o6
      have Ho7 := Lib.hid o7
      have Ho8 := Lib.hid o8
      have Ho9 := Lib.hid o9
      have Ho10 := Lib.hid o10
      have Ho11 := Lib.hid o11
      have Ho12 := Lib.hid o12
      have Hw1 := Lib.hid w1
      have Hw2 := Lib.hid w2
      clear hrs q1 q2 q3 q4 q5 q6 o1 o2 o3 o4 o5 o6 o7 o8 o9 o10 o11 o12 w1 w2
      clear hX hY
      go_wp2_with fail
      refine wp_region_still_lit (by kernel_rfl) (by kernel_rfl) ?_
      repeat still_step
      still_call (Hq1.out _)
      repeat still_step
      still_call (Hq2.out _)
      repeat still_step
      still_call (Hq3.out _)
      repeat still_step
      refine wpStill_nil ?_
      have hwe : IntKind.u32.wrap (4294967295 - (e : Int)) = 4294967295 - (e : Int) := by rw [IntKind.wrap_u32]; omega
      rw [Ho1.out, Ho2.out, Ho5.out, hwe, Ho6.out, Ho7.out, Hw1.out]
      change Exit.then _ _ Exit.normal _ wr.drew
      have HC2 : Hid (∀ t, t < 64 → wr.drew.cell? ⟨ab, t, none⟩ = some (.int .u32 ((W.getD t 0 : Nat) : Int))) := HC.out
      have GK2 : Hid (wr.drew.heap[kb]? = some (.cells (wArr Sm.kT) 93 (0, 0))) := GK.out
      have GH2 : Hid (wr.drew.heap[kb + 1]? = some (.cells (stA S) 44 (0, 0))) := GH.out
      have GD2 : Hid (wr.drew.heap[B0]? = some (.cells (dArr []) 50 (0, 0))) := GD.out
      have hb2 : Below B0 w wr.drew := hb.drew
      clear HC GK GH GD hb hk0 hw0 hwe
      generalize wr.drew = w9 at *
      go_wp2_with fail
      refine (Hq4.out _).mono ?_
      rintro e' w' ⟨rfl, rfl⟩
      go_wp2_with fail
      refine (Hq5.out _).mono ?_
      rintro e' w' ⟨rfl, rfl⟩
      go_wp2_with fail
      refine (Hq6.out _).mono ?_
      rintro e' w' ⟨rfl, rfl⟩
      have o3 := Ho3.out
      have o4 := Ho4.out
      have o8 := Ho8.out
      have o9 := Ho9.out
      have o10 := Ho10.out
      have o11 := Ho11.out
      have o12 := Ho12.out
      have w2 := Hw2.out
      go_wp2_with fail
      go_roundw
      case rel => exact ⟨i + 1, (X + Y) % 4294967296, a, b, c, (d + X) % 4294967296, e, f, g, by omega, by go_num, rfl, rfl, rfl, rfl, rfl, rfl, rfl, rfl, Hhrs.out, HC2, GK2, GH2, GD2, hb2⟩
      case measure => simp [intOf]; omega
    · have hi64' : i = 64 := by omega
      rw [hi64'] at HR
      have hni : ¬ ((i : Int) < 64) := by omega
      have HF := Lib.hid (⟨HR, GK, GH, GD, hb⟩ : Hid (Sm.rnds S Sm.kT W 64 = ⟨a, b, c, d, e, f, g, z⟩) ∧ Hid (wr.heap[kb]? = some (.cells (wArr Sm.kT) 93 (0, 0))) ∧ Hid (wr.heap[kb + 1]? = some (.cells (stA S) 44 (0, 0))) ∧ Hid (wr.heap[B0]? = some (.cells (dArr []) 50 (0, 0))) ∧ Below B0 w wr)
      clear hi64' hi64 hi HR HC HWL GK GH GD hb
      have HK := Lib.hid hK
      clear hK
      go_wp2_with fail
      exact HK.out _ _ _ _ _ _ _ _ _ _ _ _ _ _ _ _ _ _ _ _ _ _ _ _ _ _ _ _ _ _ _ _ _ _ _ _ _ _ _ _ _ _ _ _ _ _ _ _ _ _ _ _ _ _ _ _ _ _ _ _ _ _ _ _ _ _ _ _ _ _ _ _ _ _ _ _ HF.out
end Go.Proofs.Ytgdjfijkbemkeaa
