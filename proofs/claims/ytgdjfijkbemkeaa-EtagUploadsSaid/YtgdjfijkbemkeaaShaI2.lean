/-
  Walk: a loop of the reference's Of.
-/
import Derived.Test.YtgdjfijkbemkeaaShaI0
namespace Go.Proofs.Ytgdjfijkbemkeaa
open Go.RowKit
set_option maxHeartbeats 8000000
set_option maxRecDepth 100000
set_option linter.unusedVariables false

theorem refLoop48 {x0 x1 x2 x3 x4 x5 x6 x8 x10 x11 x12 x13 x14 x15 x16 x17 x18 x19 x20 x21 x22 x23 x24 x25 x26 x27 x28 x29 x30 x31 x32 x33 x34 x35 x36 x37 x38 x39 x40 x41 x42 x43 x44 x45 x46 x47 x48 x49 x50 x51 x52 x53 x54 x55 x56 x57 x58 x59 x60 x61 x62 x63 x64 x65 x66 x67 x68 x69 x70 x71 x72 x73 x74 x75 x76 x77 x78 x79 x80 x81 x82 x83 x84 x85 x86 x87 x88 x89 x90 x91 x92 x93 x94 x95 x96 x97 x98 x99 x100 x101 x102 x103 x104 x105 x106 x107 x108 x109 x110 x111 x112 x113 x114 x115 x116 x117 x118 x119 x120 x121 x122 x123 x124 x125 x126 x127 x128 x129 x130 x131 x132 x133 x134 x135 x136 x137 x138 x139 x140 x141 x142 x143 x144 x145 x146 x147 x148 x149 x150 x151 x152 x153 x154 x155 x156 x157 x158 x159 x160 x161 x162 x163 x164 x165 x166 x167 x168 x169 x170 x171 x172 x173 x174 x175 x176 x177 x178 x179 x180 x181 x182 x183 x184 x185 x186 x187 x188 x189 x190 x191 x192 x193 x194 x195 x196 x197 x198 x199 x200 x201 x202 x203 x204 x205 x206 x207 x208 x209 x210 x211 x212 x213 x214 x215 x216 x217 x218 x219 x220 x221 x222 x223 x224 x225 x226 x227 x228 x229 x230 x231 x232 x233 x234 x235 x236 x237 x238 x239 x240 x241 x242 x243 x244 x245 x246 x247 x248 x249 x250 x251 x252 x253 x254 x255 x256 x257 x258 x259 x260 x261 x262 : Value} (sv : Value) (bl : List UInt8) (wz wa : World) (j0 : TypeInfo) (hj0 : Try.prog.info? 22 = some j0) (hzz0 : j0.zero = some (.int .u32 0)) (hzz1 : j0.size = 1) (hzz2 : j0.bytes = 4) (HO16 : Hid (wa.ownsRow wz.heap.size 22 1 sv 16 (u32s (Sm.sched bl 16)))) (hbz : Below wz.heap.size wz wa)
    (Q : Exit → Act → World → Prop)
    (hK : ∀ (y7 y9 y10 y11 y81 y82 y83 y84 y85 y86 y87 y88 y89 y90 y91 y92 y93 y94 y95 y96 y97 y98 y99 y100 y101 y102 y103 y104 y105 y106 y107 y108 y109 y110 y111 y112 y113 y114 y115 y116 y117 y118 y119 y120 y121 y122 y123 y124 y125 y126 y127 y128 y129 y130 y131 y132 y133 y134 y135 y136 y137 y138 y139 y140 y141 y142 : Value)  (wk : World), (Hid (wk.ownsRow wz.heap.size 22 1 y7 64 (u32s (Sm.sched bl 64))) ∧ Below wz.heap.size wz wk) → Q (.exit 4) ⟨List.toArray (x0 :: x1 :: x2 :: x3 :: x4 :: x5 :: x6 :: y7 :: x8 :: y9 :: y10 :: y11 :: x12 :: x13 :: x14 :: x15 :: x16 :: x17 :: x18 :: x19 :: x20 :: x21 :: x22 :: x23 :: x24 :: x25 :: x26 :: x27 :: x28 :: x29 :: x30 :: x31 :: x32 :: x33 :: x34 :: x35 :: x36 :: x37 :: x38 :: x39 :: x40 :: x41 :: x42 :: x43 :: x44 :: x45 :: x46 :: x47 :: x48 :: x49 :: x50 :: x51 :: x52 :: x53 :: x54 :: x55 :: x56 :: x57 :: x58 :: x59 :: x60 :: x61 :: x62 :: x63 :: x64 :: x65 :: x66 :: x67 :: x68 :: x69 :: x70 :: x71 :: x72 :: x73 :: x74 :: x75 :: x76 :: x77 :: x78 :: x79 :: x80 :: y81 :: y82 :: y83 :: y84 :: y85 :: y86 :: y87 :: y88 :: y89 :: y90 :: y91 :: y92 :: y93 :: y94 :: y95 :: y96 :: y97 :: y98 :: y99 :: y100 :: y101 :: y102 :: y103 :: y104 :: y105 :: y106 :: y107 :: y108 :: y109 :: y110 :: y111 :: y112 :: y113 :: y114 :: y115 :: y116 :: y117 :: y118 :: y119 :: y120 :: y121 :: y122 :: y123 :: y124 :: y125 :: y126 :: y127 :: y128 :: y129 :: y130 :: y131 :: y132 :: y133 :: y134 :: y135 :: y136 :: y137 :: y138 :: y139 :: y140 :: y141 :: y142 :: x143 :: x144 :: x145 :: x146 :: x147 :: x148 :: x149 :: x150 :: x151 :: x152 :: x153 :: x154 :: x155 :: x156 :: x157 :: x158 :: x159 :: x160 :: x161 :: x162 :: x163 :: x164 :: x165 :: x166 :: x167 :: x168 :: x169 :: x170 :: x171 :: x172 :: x173 :: x174 :: x175 :: x176 :: x177 :: x178 :: x179 :: x180 :: x181 :: x182 :: x183 :: x184 :: x185 :: x186 :: x187 :: x188 :: x189 :: x190 :: x191 :: x192 :: x193 :: x194 :: x195 :: x196 :: x197 :: x198 :: x199 :: x200 :: x201 :: x202 :: x203 :: x204 :: x205 :: x206 :: x207 :: x208 :: x209 :: x210 :: x211 :: x212 :: x213 :: x214 :: x215 :: x216 :: x217 :: x218 :: x219 :: x220 :: x221 :: x222 :: x223 :: x224 :: x225 :: x226 :: x227 :: x228 :: x229 :: x230 :: x231 :: x232 :: x233 :: x234 :: x235 :: x236 :: x237 :: x238 :: x239 :: x240 :: x241 :: x242 :: x243 :: x244 :: x245 :: x246 :: x247 :: x248 :: x249 :: x250 :: x251 :: x252 :: x253 :: x254 :: x255 :: x256 :: x257 :: x258 :: x259 :: x260 :: x261 :: x262 :: []), []⟩ wk) :
    Code.wp Try.prog (Code.loop (lpOf 2)) Q ⟨List.toArray (x0 :: x1 :: x2 :: x3 :: x4 :: x5 :: x6 :: sv :: x8 :: .int .i64 16 :: x10 :: x11 :: x12 :: x13 :: x14 :: x15 :: x16 :: x17 :: x18 :: x19 :: x20 :: x21 :: x22 :: x23 :: x24 :: x25 :: x26 :: x27 :: x28 :: x29 :: x30 :: x31 :: x32 :: x33 :: x34 :: x35 :: x36 :: x37 :: x38 :: x39 :: x40 :: x41 :: x42 :: x43 :: x44 :: x45 :: x46 :: x47 :: x48 :: x49 :: x50 :: x51 :: x52 :: x53 :: x54 :: x55 :: x56 :: x57 :: x58 :: x59 :: x60 :: x61 :: x62 :: x63 :: x64 :: x65 :: x66 :: x67 :: x68 :: x69 :: x70 :: x71 :: x72 :: x73 :: x74 :: x75 :: x76 :: x77 :: x78 :: x79 :: x80 :: x81 :: x82 :: x83 :: x84 :: x85 :: x86 :: x87 :: x88 :: x89 :: x90 :: x91 :: x92 :: x93 :: x94 :: x95 :: x96 :: x97 :: x98 :: x99 :: x100 :: x101 :: x102 :: x103 :: x104 :: x105 :: x106 :: x107 :: x108 :: x109 :: x110 :: x111 :: x112 :: x113 :: x114 :: x115 :: x116 :: x117 :: x118 :: x119 :: x120 :: x121 :: x122 :: x123 :: x124 :: x125 :: x126 :: x127 :: x128 :: x129 :: x130 :: x131 :: x132 :: x133 :: x134 :: x135 :: x136 :: x137 :: x138 :: x139 :: x140 :: x141 :: x142 :: x143 :: x144 :: x145 :: x146 :: x147 :: x148 :: x149 :: x150 :: x151 :: x152 :: x153 :: x154 :: x155 :: x156 :: x157 :: x158 :: x159 :: x160 :: x161 :: x162 :: x163 :: x164 :: x165 :: x166 :: x167 :: x168 :: x169 :: x170 :: x171 :: x172 :: x173 :: x174 :: x175 :: x176 :: x177 :: x178 :: x179 :: x180 :: x181 :: x182 :: x183 :: x184 :: x185 :: x186 :: x187 :: x188 :: x189 :: x190 :: x191 :: x192 :: x193 :: x194 :: x195 :: x196 :: x197 :: x198 :: x199 :: x200 :: x201 :: x202 :: x203 :: x204 :: x205 :: x206 :: x207 :: x208 :: x209 :: x210 :: x211 :: x212 :: x213 :: x214 :: x215 :: x216 :: x217 :: x218 :: x219 :: x220 :: x221 :: x222 :: x223 :: x224 :: x225 :: x226 :: x227 :: x228 :: x229 :: x230 :: x231 :: x232 :: x233 :: x234 :: x235 :: x236 :: x237 :: x238 :: x239 :: x240 :: x241 :: x242 :: x243 :: x244 :: x245 :: x246 :: x247 :: x248 :: x249 :: x250 :: x251 :: x252 :: x253 :: x254 :: x255 :: x256 :: x257 :: x258 :: x259 :: x260 :: x261 :: x262 :: []), []⟩ wa := by
  conv => arg 2; arg 1; whnf
  go_loopw [9, 7] (fun cv v wr => ∃ (k : Nat) (sv : Value), 16 ≤ k ∧ k ≤ 64 ∧ cv = .int .i64 (k : Int) ∧ sv = v ∧ Hid (wr.ownsRow wz.heap.size 22 1 sv k (u32s (Sm.sched bl k))) ∧ Below wz.heap.size wz wr) (fun cv _ _ => 64 - (intOf cv).toNat)
  case atStart => exact ⟨16, sv, by omega, by omega, rfl, rfl, HO16, hbz⟩
  case round =>
    clear HO16 hbz
    obtain ⟨k2, sv2, hk2, hk3, rfl, rfl, HO, hbz2⟩ := hrel
    by_cases hk64 : k2 < 64
    · clear hK
      obtain ⟨j, rfl⟩ : ∃ m, k2 = m + 16 := ⟨k2 - 16, by omega⟩
      obtain ⟨ap, ac, rfl, hac, hcells⟩ := owns_read HO.out
      obtain ⟨ab, rfl, hab1, hab2, hcl⟩ : ∃ b, ap = some ⟨b, 0, none⟩ ∧ wz.heap.size ≤ b ∧ b < wr.heap.size ∧ ∀ t u, (u32s (Sm.sched bl (j + 16)))[t]? = some u → wr.cell? ⟨b, t, none⟩ = some u := by
        rcases hcells with h | h
        · omega
        · exact h
      have hlenS := Sm.sched_length bl (j + 16)
      have hcell : ∀ t, t < j + 16 → wr.cell? ⟨ab, t, none⟩ = some (.int .u32 (((Sm.sched bl (j + 16)).getD t 0 : Nat) : Int)) := fun t ht => by
        refine hcl t _ ?_
        rw [u32s, List.getElem?_map, List.getD_eq_getElem?_getD, List.getElem?_eq_getElem (by omega)]; rfl
      have hst : Sm.sched bl (j + 16 + 1) = Sm.sched bl (j + 16) ++ [(((Sm.sched bl (j + 16)).getD j 0 + Sm.sig ((Sm.sched bl (j + 16)).getD (j + 1) 0) 7 18 3 true) % 4294967296 + (Sm.sched bl (j + 16)).getD (j + 9) 0 + Sm.sig ((Sm.sched bl (j + 16)).getD (j + 14) 0) 17 19 10 true) % 4294967296] := by
        rw [Sm.sched_succ, if_neg (by omega), show j + 16 - 16 = j by omega, show j + 16 - 15 = j + 1 by omega, show j + 16 - 7 = j + 9 by omega, show j + 16 - 2 = j + 14 by omega]
      have e16 := hcell j (by omega)
      have e15 := hcell (j + 1) (by omega)
      have e7 := hcell (j + 9) (by omega)
      have e2 := hcell (j + 14) (by omega)
      have l16 := sched_getD_lt bl (j + 16) j
      have l15 := sched_getD_lt bl (j + 16) (j + 1)
      have l7 := sched_getD_lt bl (j + 16) (j + 9)
      have l2 := sched_getD_lt bl (j + 16) (j + 14)
      generalize (Sm.sched bl (j + 16)).getD j 0 = y16 at *
      generalize (Sm.sched bl (j + 16)).getD (j + 1) 0 = y15 at *
      generalize (Sm.sched bl (j + 16)).getD (j + 9) 0 = y7 at *
      generalize (Sm.sched bl (j + 16)).getD (j + 14) 0 = y2 at *
      have c1 : ∀ wx, Calls Try.prog 64 #[.int .u32 y15, .int .u64 7] wx fun e w' => e = .returned (.int .u32 (Sm.rr y15 7 : Nat)) ∧ w' = wx := fun wx => refRight y15 7 l15 (by decide) (by decide) wx
      have c2 : ∀ wx, Calls Try.prog 64 #[.int .u32 y15, .int .u64 18] wx fun e w' => e = .returned (.int .u32 (Sm.rr y15 18 : Nat)) ∧ w' = wx := fun wx => refRight y15 18 l15 (by decide) (by decide) wx
      have c3 : ∀ wx, Calls Try.prog 64 #[.int .u32 y2, .int .u64 17] wx fun e w' => e = .returned (.int .u32 (Sm.rr y2 17 : Nat)) ∧ w' = wx := fun wx => refRight y2 17 l2 (by decide) (by decide) wx
      have c4 : ∀ wx, Calls Try.prog 64 #[.int .u32 y2, .int .u64 19] wx fun e w' => e = .returned (.int .u32 (Sm.rr y2 19 : Nat)) ∧ w' = wx := fun wx => refRight y2 19 l2 (by decide) (by decide) wx
      have g1 : Sm.sig y15 7 18 3 true = (Sm.rr y15 7 ^^^ Sm.rr y15 18) ^^^ (y15 / 2 ^ 3) := rfl
      have g2 : Sm.sig y2 17 19 10 true = (Sm.rr y2 17 ^^^ Sm.rr y2 19) ^^^ (y2 / 2 ^ 10) := rfl
      have gl1 := Sm.sig_lt y15 7 18 3 true l15 (by decide) (by decide) (by decide)
      have gl2 := Sm.sig_lt y2 17 19 10 true l2 (by decide) (by decide) (by decide)
      have a1 := Sm.rr_lt y15 7 l15 (by decide)
      have a2 := Sm.rr_lt y15 18 l15 (by decide)
      have a3 := Sm.rr_lt y2 17 l2 (by decide)
      have a4 := Sm.rr_lt y2 19 l2 (by decide)
      have p1 := Sm.bxor32 _ _ a1 a2
      have p2 := Sm.bxor32 _ (y15 / 2 ^ 3) (Sm.xor_lt32 _ _ a1 a2) (by omega)
      have p3 := Sm.bxor32 _ _ a3 a4
      have p4 := Sm.bxor32 _ (y2 / 2 ^ 10) (Sm.xor_lt32 _ _ a3 a4) (by omega)
      rw [← g1] at p2
      rw [← g2] at p4
      generalize Sm.sig y15 7 18 3 true = s1 at *
      generalize Sm.sig y2 17 19 10 true = s2 at *
      generalize Sm.rr y15 7 ^^^ Sm.rr y15 18 = o1 at *
      generalize Sm.rr y2 17 ^^^ Sm.rr y2 19 = o2 at *
      generalize Sm.rr y15 7 = r1 at *
      generalize Sm.rr y15 18 = r2 at *
      generalize Sm.rr y2 17 = r3 at *
      generalize Sm.rr y2 19 = r4 at *
      have hsh1 : (y15 : Int) / 8 = ((y15 / 2 ^ 3 : Nat) : Int) := by omega
      have hsh2 : (y2 : Int) / 1024 = ((y2 / 2 ^ 10 : Nat) : Int) := by omega
      have P1 := Lib.hid p1
      have P2 := Lib.hid p2
      have P3 := Lib.hid p3
      have P4 := Lib.hid p4
      have SH1 := Lib.hid hsh1
      have SH2 := Lib.hid hsh2
      have C1 := Lib.hid c1
      have C2 := Lib.hid c2
      have C3 := Lib.hid c3
      have C4 := Lib.hid c4
      have HST := Lib.hid hst
      have hjj : j < 48 := by omega
      clear p1 p2 p3 p4 hsh1 hsh2 c1 c2 c3 c4 hst hcell hcl hlenS g1 g2 a1 a2 a3 a4 hcells
      have n15 : IntKind.i64.wrap ((j : Int) + 16 - 15) = (j : Int) + 1 := by rw [IntKind.wrap_i64]; omega
      have n2 : IntKind.i64.wrap ((j : Int) + 16 - 2) = (j : Int) + 14 := by rw [IntKind.wrap_i64]; omega
      have n7 : IntKind.i64.wrap ((j : Int) + 16 - 7) = (j : Int) + 9 := by rw [IntKind.wrap_i64]; omega
      have n16 : IntKind.i64.wrap (j : Int) = (j : Int) := by rw [IntKind.wrap_i64]; omega
      have b1 : (0 : Int) ≤ (j : Int) + 1 := by omega
      have b9 : (0 : Int) ≤ (j : Int) + 9 := by omega
      have b14 : (0 : Int) ≤ (j : Int) + 14 := by omega
      have b0 : (0 : Int) ≤ (j : Int) := by omega
      have bj : (j : Int) < (j : Int) + 16 := by omega
      have t1 : ((j : Int) + 1).toNat = j + 1 := by omega
      have t9 : ((j : Int) + 9).toNat = j + 9 := by omega
      have t14 : ((j : Int) + 14).toNat = j + 14 := by omega
      go_wp2_with fail
      refine wp_region_still_lit (by kernel_rfl) (by kernel_rfl) ?_
      repeat still_step
      still_call (C1.out _)
      repeat still_step
      still_call (C2.out _)
      repeat still_step
      refine wpStill_nil ?_
      rw [SH1.out, P1.out, P2.out]
      change Exit.then _ _ Exit.normal _ wr.drew
      have JO : Hid (wr.drew.ownsRow wz.heap.size 22 1 (.slice (some ⟨ab, 0, none⟩) (j + 16) ac) (j + 16) (u32s (Sm.sched bl (j + 16)))) := HO.out
      have jb : Below wz.heap.size wz wr.drew := hbz2.drew
      have f16 : wr.drew.cell? ⟨ab, j, none⟩ = some (.int .u32 (y16 : Int)) := e16
      have f7 : wr.drew.cell? ⟨ab, j + 9, none⟩ = some (.int .u32 (y7 : Int)) := e7
      have f2 : wr.drew.cell? ⟨ab, j + 14, none⟩ = some (.int .u32 (y2 : Int)) := e2
      clear HO hbz2 e16 e15 e7 e2 hab2
      generalize wr.drew = w5 at *
      go_wp2_with fail
      refine wp_region_still_lit (by kernel_rfl) (by kernel_rfl) ?_
      repeat still_step
      still_call (C3.out _)
      repeat still_step
      still_call (C4.out _)
      repeat still_step
      refine wpStill_nil ?_
      rw [SH2.out, P3.out, P4.out]
      change Exit.then _ _ Exit.normal _ w5.drew
      have JO6 : Hid (w5.drew.ownsRow wz.heap.size 22 1 (.slice (some ⟨ab, 0, none⟩) (j + 16) ac) (j + 16) (u32s (Sm.sched bl (j + 16)))) := JO.out
      have jb6 : Below wz.heap.size wz w5.drew := jb.drew
      have h16 : w5.drew.cell? ⟨ab, j, none⟩ = some (.int .u32 (y16 : Int)) := f16
      have h7 : w5.drew.cell? ⟨ab, j + 9, none⟩ = some (.int .u32 (y7 : Int)) := f7
      clear JO jb f16 f7 f2
      generalize w5.drew = w6 at *
      obtain ⟨wd, hwd⟩ : ∃ x, x = ((y16 + s1) % 4294967296 + y7 + s2) % 4294967296 := ⟨_, rfl⟩
      rw [← hwd] at HST
      have m0 : IntKind.u32.wrap (IntKind.u32.wrap (IntKind.u32.wrap ((y16 : Int) + s1) + y7) + s2) = (wd : Int) := by
        simp only [IntKind.wrap_u32]; omega
      have M0 := Lib.hid m0
      clear hwd m0
      go_wp2_with fail
      refine wp_region_ptail (fun w' => w' = w6.drew) 15 (by kernel_rfl) (by kernel_rfl) rfl rfl (.slice (some ⟨ab, 0, none⟩) (j + 16) ac) (fun _ => rfl) ?_
      simp only [List.take_succ_cons, List.take_zero, List.drop_succ_cons, List.drop_zero]
      repeat (refine wpQuiet_step (fun Kq hKq => ?_)
              refine qt_want rfl ?_
              apply Exists.intro
              refine ⟨fun _ hw => ?_, ?_⟩
              · (unfold Oper.quietAt; go_simp; try exact rfl)
              go_simp
              refine hKq _ ?_
              clear hKq Kq)
      refine wpQuiet_nil ?_
      rintro w' rfl
      rw [M0.out]
      have J1 : Hid (w6.drew.ownsRow wz.heap.size 22 1 (.slice (some ⟨ab, 0, none⟩) (j + 16) ac) (j + 16) (u32s (Sm.sched bl (j + 16)))) := JO6.out
      have jb1 : Below wz.heap.size wz w6.drew := jb6.drew
      clear JO6 jb6 h16 h7
      generalize w6.drew = w7 at *
      have hbs := jb1.size
      go_wp2_with (at_builtin; go_loud (refine kl_append1 rfl _ _ 99 rfl wz.heap.size 22 j0 (.int .u32 0) 1 4 Try.underlying99 hj0 hzz0 hzz1 hzz2 rfl (by decide) _ (j + 16) _ rfl J1.out 1 #[.int .u32 (wd : Int)] rfl rfl (by simp [Value.oneCell']) (by omega) (by omega) hbs ?_; intro v' w' hown' hbel hsz' _))
      try refine NoPanic.normal ?_
      go_wp2_with fail
      go_roundw
      case rel =>
        refine ⟨j + 16 + 1, v', by omega, by omega, by go_num, rfl, ?_, jb1.trans hbel⟩
        rw [HST.out]
        have e : u32s (Sm.sched bl (j + 16) ++ [wd]) = u32s (Sm.sched bl (j + 16)) ++ [.int .u32 (wd : Int)] := by simp [u32s]
        rw [e]; exact hown'
      case measure => simp [intOf]; omega
    · have hk64' : k2 = 64 := by omega
      have HO64 : Hid (wr.ownsRow wz.heap.size 22 1 sv2 64 (u32s (Sm.sched bl 64))) := by rw [← hk64']; exact HO.out
      have hki2 : ¬ ((k2 : Int) < 64) := by omega
      have HF := Lib.hid (⟨HO64, hbz2⟩ : Hid (wr.ownsRow wz.heap.size 22 1 sv2 64 (u32s (Sm.sched bl 64))) ∧ Below wz.heap.size wz wr)
      clear HO hk64' hk2 hk3 hk64 HO64 hbz2
      have HK := Lib.hid hK
      clear hK
      go_wp2_with fail
      exact HK.out _ _ _ _ _ _ _ _ _ _ _ _ _ _ _ _ _ _ _ _ _ _ _ _ _ _ _ _ _ _ _ _ _ _ _ _ _ _ _ _ _ _ _ _ _ _ _ _ _ _ _ _ _ _ _ _ _ _ _ _ _ _ _ _ _ _ _ HF.out
end Go.Proofs.Ytgdjfijkbemkeaa
