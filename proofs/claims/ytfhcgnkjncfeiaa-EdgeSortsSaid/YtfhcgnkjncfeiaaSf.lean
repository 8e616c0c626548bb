/- slices.symMergeCmpFunc: what follows the search. (gensf.py prints this text.) -/
import Derived.Test.YtfhcgnkjncfeiaaSe
import Derived.Deep.DeepCutAuto
namespace Go.Proofs.Ytfhcgnkjncfeiaa
open Go.ChangeShapes Go.WideShapes Go.RowKit Fl

def sB : Code → Code | .seq _ b => b | c => c
def SymAt (f : Nat) : Prop := ∀ (w w0 : World) (base g n : Nat) (R : Nat → Nat) (_ : RowG w w0 base g n R) (_ : ∀ j, Wd (R j)) (cap a m b : Nat) (_ : a < m) (_ : m < b) (_ : b ≤ n) (_ : n ≤ 100000) (_ : b - a ≤ f) (_ : Ordd R a m) (_ : Ordd R m b),
    Calls Try.prog 92 #[.slice (some ⟨g, 0, none⟩) n cap, .int .i64 a, .int .i64 m, .int .i64 b, CMPF] w fun e w' => e = .returned (.tuple #[]) ∧ ∃ R', RowG w' w0 base g n R' ∧ Seg a b n R R' ∧ Ordd R' a b
variable {w w0 : World} {base g n : Nat} {R R1 R2 : Nat → Nat} {cap a m b mid st r0 s e f : Nat}
set_option maxRecDepth 100000 in
set_option maxHeartbeats 6400000 in
theorem t43 {x5 x6 x7 x8 x9 x10 x11 x12 x13 x14 x15 x16 x17 x19 x21 x22 x23 x25 x26 x27 x28 x29 x30 x31 x32 x33 x34 x35 x36 x37 x38 x39 x40 x41 x42 x43 x44 x45 x46 x47 x48 x49 x50 x51 x52 x53 x54 x55 x56 x57 x58 x59 x60 x61 x62 x63 x64 x65 x66 x67 x68 x69 x70 x71 x72 x73 x74 x75 x76 x77 x78 x79 x80 x81 x82 x83 x84 x85 x86 x87 x88 x89 x90 x91 x92 x93 x94 x95 x96 x97 x98 x99 x100 x101 x102 x103 x104 x105 x106 x107 x108 x109 x110 x111 x112 x113 x114 x115 x116 x117 x118 x119 x120 x121 x122 x123 x124 x125 x126 x127 x128 x129 x130 x131 x132 x133 x134 x135 x136 x137 x138 x139 x140 x141 x142 x143 x144 x145 x146 x147 x148 x149 x150 x151 x152 x153 x154 x155 x156 x157 x158 x159 x160 x161 x162 x163 x164 x165 x166 x167 x168 x169 x170 x171 x172 x173 x174 x175 x176 x177 x178 x179 x180 x181 x182 x183 x184 x185 x186 x187 x188 x189 x190 x191 x192 x193 x194 x195 x196 x197 x198 x199 x200 x201 x202 x203 x204 x205 x206 x207 x208 x209 x210 x211 x212 x213 x214 x215 x216 x217 x218 x219 : Value} (CU : Cut R a m b mid st r0 s s) (he : e = mid + m - s) (hn : b ≤ n ∧ n ≤ 100000 ∧ b - a ≤ f + 1) (ih : SymAt f) (Q : Exit → Act → World → Prop) (hQ : ∀ a' w', a'.defers = [] → (∃ R', RowG w' w0 base g n R' ∧ Seg a b n R R' ∧ Ordd R' a b) → Q .normal a' w') (h2 : RowG w w0 base g n R2) (W2 : ∀ j, Wd (R2 j)) (hR1 : R1 = rc R m mid s) (s1 : Seg a b n R R1) (s2 : Seg a mid n R1 R2) (o2 : Ordd R2 a mid) :
    Code.wp Try.prog (sB (sB (sB (sB (sB (sB (sB (sB (sB (sB (sB (Try.f92.body.getD .skip)))))))))))) Q { tmps := #[(.slice (some ⟨g, 0, none⟩) n cap : Value), (.int .i64 a : Value), (.int .i64 m : Value), (.int .i64 b : Value), (.func (.func 36) #[] #[] : Value), x5, x6, x7, x8, x9, x10, x11, x12, x13, x14, x15, x16, x17, (.int .i64 mid : Value), x19, (.int .i64 s : Value), x21, x22, x23, (.int .i64 e : Value), x25, x26, x27, x28, x29, x30, x31, x32, x33, x34, x35, x36, x37, x38, x39, x40, x41, x42, x43, x44, x45, x46, x47, x48, x49, x50, x51, x52, x53, x54, x55, x56, x57, x58, x59, x60, x61, x62, x63, x64, x65, x66, x67, x68, x69, x70, x71, x72, x73, x74, x75, x76, x77, x78, x79, x80, x81, x82, x83, x84, x85, x86, x87, x88, x89, x90, x91, x92, x93, x94, x95, x96, x97, x98, x99, x100, x101, x102, x103, x104, x105, x106, x107, x108, x109, x110, x111, x112, x113, x114, x115, x116, x117, x118, x119, x120, x121, x122, x123, x124, x125, x126, x127, x128, x129, x130, x131, x132, x133, x134, x135, x136, x137, x138, x139, x140, x141, x142, x143, x144, x145, x146, x147, x148, x149, x150, x151, x152, x153, x154, x155, x156, x157, x158, x159, x160, x161, x162, x163, x164, x165, x166, x167, x168, x169, x170, x171, x172, x173, x174, x175, x176, x177, x178, x179, x180, x181, x182, x183, x184, x185, x186, x187, x188, x189, x190, x191, x192, x193, x194, x195, x196, x197, x198, x199, x200, x201, x202, x203, x204, x205, x206, x207, x208, x209, x210, x211, x212, x213, x214, x215, x216, x217, x218, x219], defers := [] } w := by
  have IH := Lib.hid ih
  have HQ := Lib.hid hQ
  have HN := Lib.hid hn
  have lim := CU.lim
  have LIM := Lib.hid (show a ≤ s ∧ s ≤ m ∧ s ≤ mid ∧ a < mid ∧ mid < b ∧ m ≤ e ∧ e ≤ b ∧ mid ≤ e ∧ e - m = mid - s by omega)
  have HE := Lib.hid he
  have HCU := Lib.hid CU
  have CR := Lib.hid hR1
  have H2 := Lib.hid h2
  have HW := Lib.hid W2
  have S1 := Lib.hid s1
  have S2 := Lib.hid s2
  have O2 := Lib.hid o2
  obtain ⟨B, hB⟩ : ∃ B, B = decide (mid < e ∧ e < b) := ⟨_, rfl⟩
  have HB := Lib.hid hB
  have HO3 := Lib.hid (show Ordd R2 mid e from by
    have h3 := CU.ord3
    rw [← hR1, ← he] at h3
    exact h3.congr (fun x h1 _ => s2.1 x (Or.inr h1)))
  have HO4 := Lib.hid (show Ordd R2 e b from by
    have h3 := CU.ord4
    rw [← hR1, ← he] at h3
    exact h3.congr (fun x h1 _ => s2.1 x (Or.inr (by omega))))
  clear CU he hn ih hQ lim h2 W2 hR1 s1 s2 o2 hB
  simp only [Try.f92, Option.getD, sB]
  go_upto_region 43 with fail
  go_cut [213] from 206 to 212 (fun cv wx => cv = .bool B ∧ wx = w)
  case first =>
    by_cases x1 : mid < e
    · by_cases x2 : e < b
      · have d1 : decide (mid < e) = true := decide_eq_true x1
        have d2 : decide (e < b) = true := decide_eq_true x2
        have d1z : decide ((mid : Int) < (e : Int)) = true := decide_eq_true (by omega)
        have d2z : decide ((e : Int) < (b : Int)) = true := decide_eq_true (by omega)
        go_wp2_with fail
        go_meet
        exact ⟨by rw [HB.out, decide_eq_true (And.intro x1 x2)], rfl⟩
      · have d1 : decide (mid < e) = true := decide_eq_true x1
        have d2 : decide (e < b) = false := decide_eq_false x2
        have d1z : decide ((mid : Int) < (e : Int)) = true := decide_eq_true (by omega)
        have d2z : decide ((e : Int) < (b : Int)) = false := decide_eq_false (by omega)
        go_wp2_with fail
        go_meet
        exact ⟨by rw [HB.out, decide_eq_false (fun h => x2 h.2)], rfl⟩
    · have d1 : decide (mid < e) = false := decide_eq_false x1
      have d1z : decide ((mid : Int) < (e : Int)) = false := decide_eq_false (by omega)
      go_wp2_with fail
      go_meet
      exact ⟨by rw [HB.out, decide_eq_false (fun h => x1 h.1)], rfl⟩
  case rest =>
  obtain ⟨rfl, rfl⟩ := hcut
  cases B with
  | true =>
    have x := of_decide_eq_true HB.out.symm
    have K := IH.out _ w0 base g n R2 H2.out HW.out cap mid e b x.1 x.2 HN.out.1 HN.out.2.1 (by have := HN.out; have := LIM.out; omega) HO3.out HO4.out
    unfold CMPF at K
    have K := Lib.hid K
    clear x
    go_wp2_with fail
    refine K.out.mono ?_
    rintro _ w5 ⟨rfl, R3, h5, s5, o5⟩
    have H5 := Lib.hid h5
    have S5 := Lib.hid (S1.out.trans ((S2.out.mono (Nat.le_refl _) (by have := LIM.out; omega)).trans (s5.mono (by have := LIM.out; omega) (Nat.le_refl _))))
    have HJ := Lib.hid (HCU.out.join (by rw [← CR.out]; exact S2.out) O2.out s5 o5)
    clear h5 s5 o5
    go_wp2_with fail
    exact HQ.out _ _ rfl ⟨R3, H5.out, S5.out, HJ.out⟩
  | false =>
    have x := of_decide_eq_false HB.out.symm
    have ho : Ordd R2 mid b := by
      by_cases y : e = b
      · have := HO3.out; rw [y] at this; exact this
      · have : e = mid := by have := LIM.out; omega
        have h2 := HO4.out; rw [this] at h2; exact h2
    have S5 := Lib.hid (S1.out.trans (S2.out.mono (Nat.le_refl _) (by have := LIM.out; omega)))
    have HJ := Lib.hid (HCU.out.join (by rw [← CR.out]; exact S2.out) O2.out (Seg.refl ..) ho)
    clear x ho
    go_wp2_with fail
    exact HQ.out _ _ rfl ⟨R2, H2.out, S5.out, HJ.out⟩
set_option maxRecDepth 100000 in
set_option maxHeartbeats 6400000 in
theorem t41 {x5 x6 x7 x8 x9 x10 x11 x12 x13 x14 x15 x16 x17 x19 x21 x22 x23 x25 x26 x27 x28 x29 x30 x31 x32 x33 x34 x35 x36 x37 x38 x39 x40 x41 x42 x43 x44 x45 x46 x47 x48 x49 x50 x51 x52 x53 x54 x55 x56 x57 x58 x59 x60 x61 x62 x63 x64 x65 x66 x67 x68 x69 x70 x71 x72 x73 x74 x75 x76 x77 x78 x79 x80 x81 x82 x83 x84 x85 x86 x87 x88 x89 x90 x91 x92 x93 x94 x95 x96 x97 x98 x99 x100 x101 x102 x103 x104 x105 x106 x107 x108 x109 x110 x111 x112 x113 x114 x115 x116 x117 x118 x119 x120 x121 x122 x123 x124 x125 x126 x127 x128 x129 x130 x131 x132 x133 x134 x135 x136 x137 x138 x139 x140 x141 x142 x143 x144 x145 x146 x147 x148 x149 x150 x151 x152 x153 x154 x155 x156 x157 x158 x159 x160 x161 x162 x163 x164 x165 x166 x167 x168 x169 x170 x171 x172 x173 x174 x175 x176 x177 x178 x179 x180 x181 x182 x183 x184 x185 x186 x187 x188 x189 x190 x191 x192 x193 x194 x195 x196 x197 x198 x199 x200 x201 x202 x203 x204 x205 x206 x207 x208 x209 x210 x211 x212 x213 x214 x215 x216 x217 x218 x219 : Value} (CU : Cut R a m b mid st r0 s s) (he : e = mid + m - s) (hn : b ≤ n ∧ n ≤ 100000 ∧ b - a ≤ f + 1) (ih : SymAt f) (Q : Exit → Act → World → Prop) (hQ : ∀ a' w', a'.defers = [] → (∃ R', RowG w' w0 base g n R' ∧ Seg a b n R R' ∧ Ordd R' a b) → Q .normal a' w') (h1 : RowG w w0 base g n R1) (W1 : ∀ j, Wd (R1 j)) (hR1 : R1 = rc R m mid s) (s1 : Seg a b n R R1) :
    Code.wp Try.prog (sB (sB (sB (sB (sB (sB (sB (sB (sB (sB (Try.f92.body.getD .skip))))))))))) Q { tmps := #[(.slice (some ⟨g, 0, none⟩) n cap : Value), (.int .i64 a : Value), (.int .i64 m : Value), (.int .i64 b : Value), (.func (.func 36) #[] #[] : Value), x5, x6, x7, x8, x9, x10, x11, x12, x13, x14, x15, x16, x17, (.int .i64 mid : Value), x19, (.int .i64 s : Value), x21, x22, x23, (.int .i64 e : Value), x25, x26, x27, x28, x29, x30, x31, x32, x33, x34, x35, x36, x37, x38, x39, x40, x41, x42, x43, x44, x45, x46, x47, x48, x49, x50, x51, x52, x53, x54, x55, x56, x57, x58, x59, x60, x61, x62, x63, x64, x65, x66, x67, x68, x69, x70, x71, x72, x73, x74, x75, x76, x77, x78, x79, x80, x81, x82, x83, x84, x85, x86, x87, x88, x89, x90, x91, x92, x93, x94, x95, x96, x97, x98, x99, x100, x101, x102, x103, x104, x105, x106, x107, x108, x109, x110, x111, x112, x113, x114, x115, x116, x117, x118, x119, x120, x121, x122, x123, x124, x125, x126, x127, x128, x129, x130, x131, x132, x133, x134, x135, x136, x137, x138, x139, x140, x141, x142, x143, x144, x145, x146, x147, x148, x149, x150, x151, x152, x153, x154, x155, x156, x157, x158, x159, x160, x161, x162, x163, x164, x165, x166, x167, x168, x169, x170, x171, x172, x173, x174, x175, x176, x177, x178, x179, x180, x181, x182, x183, x184, x185, x186, x187, x188, x189, x190, x191, x192, x193, x194, x195, x196, x197, x198, x199, x200, x201, x202, x203, x204, x205, x206, x207, x208, x209, x210, x211, x212, x213, x214, x215, x216, x217, x218, x219], defers := [] } w := by
  have IH := Lib.hid ih
  have HQ := Lib.hid hQ
  have HN := Lib.hid hn
  have lim := CU.lim
  have LIM := Lib.hid (show a ≤ s ∧ s ≤ m ∧ s ≤ mid ∧ a < mid ∧ mid < b ∧ m ≤ e ∧ e ≤ b ∧ mid ≤ e ∧ e - m = mid - s by omega)
  have HE := Lib.hid he
  have HCU := Lib.hid CU
  have CR := Lib.hid hR1
  have H1 := Lib.hid h1
  have HW := Lib.hid W1
  have S1 := Lib.hid s1
  obtain ⟨B, hB⟩ : ∃ B, B = decide (a < s ∧ s < mid) := ⟨_, rfl⟩
  have HB := Lib.hid hB
  clear CU he hn ih hQ lim h1 W1 hR1 s1 hB
  simp only [Try.f92, Option.getD, sB]
  go_upto_region 41 with fail
  go_cut [199] from 192 to 198 (fun cv wx => cv = .bool B ∧ wx = w)
  case first =>
    by_cases x1 : a < s
    · by_cases x2 : s < mid
      · have d1 : decide (a < s) = true := decide_eq_true x1
        have d2 : decide (s < mid) = true := decide_eq_true x2
        have d1z : decide ((a : Int) < (s : Int)) = true := decide_eq_true (by omega)
        have d2z : decide ((s : Int) < (mid : Int)) = true := decide_eq_true (by omega)
        go_wp2_with fail
        go_meet
        exact ⟨by rw [HB.out, decide_eq_true (And.intro x1 x2)], rfl⟩
      · have d1 : decide (a < s) = true := decide_eq_true x1
        have d2 : decide (s < mid) = false := decide_eq_false x2
        have d1z : decide ((a : Int) < (s : Int)) = true := decide_eq_true (by omega)
        have d2z : decide ((s : Int) < (mid : Int)) = false := decide_eq_false (by omega)
        go_wp2_with fail
        go_meet
        exact ⟨by rw [HB.out, decide_eq_false (fun h => x2 h.2)], rfl⟩
    · have d1 : decide (a < s) = false := decide_eq_false x1
      have d1z : decide ((a : Int) < (s : Int)) = false := decide_eq_false (by omega)
      go_wp2_with fail
      go_meet
      exact ⟨by rw [HB.out, decide_eq_false (fun h => x1 h.1)], rfl⟩
  case rest =>
  obtain ⟨rfl, rfl⟩ := hcut
  go_upto_if 199 with fail
  go_cut [] from 200 to 205 (fun wx => ∃ R2, RowG wx w0 base g n R2 ∧ Seg a mid n R1 R2 ∧ Ordd R2 a mid)
  case first =>
    cases B with
    | true =>
      have x := of_decide_eq_true HB.out.symm
      have K := IH.out _ w0 base g n R1 H1.out HW.out cap a s mid x.1 x.2 (by have := HN.out; have := LIM.out; omega) HN.out.2.1 (by have := HN.out; have := LIM.out; omega) (by rw [CR.out]; exact HCU.out.ord1) (by rw [CR.out]; exact HCU.out.ord2)
      unfold CMPF at K
      have K := Lib.hid K
      clear x
      go_wp2_with fail
      refine K.out.mono ?_
      rintro _ w5 ⟨rfl, R2, h5⟩
      have H5 := Lib.hid h5
      clear h5
      go_wp2_with fail
      go_meet
      exact ⟨R2, H5.out⟩
    | false =>
      have x := of_decide_eq_false HB.out.symm
      have ho : Ordd R1 a mid := by
        rw [CR.out]
        by_cases y : s = mid
        · have := HCU.out.ord1; rw [y] at this ⊢; exact this
        · have : s = a := by have := LIM.out; omega
          have h2 := HCU.out.ord2; rw [this] at h2 ⊢; exact h2
      have HO := Lib.hid ho
      clear x ho
      go_wp2_with fail
      go_meet
      exact ⟨R1, H1.out, Seg.refl .., HO.out⟩
  case rest =>
  obtain ⟨R2, h2, s2, o2⟩ := hcut
  rename_i hk wz
  refine hk _ _ ?_
  exact t43 HCU.out HE.out HN.out IH.out Q HQ.out h2 (s2.wd HW.out) CR.out S1.out s2 o2
set_option maxRecDepth 100000 in
set_option maxHeartbeats 6400000 in
theorem t39 {x5 x6 x7 x8 x9 x10 x11 x12 x13 x14 x15 x16 x17 x19 x21 x22 x23 x25 x26 x27 x28 x29 x30 x31 x32 x33 x34 x35 x36 x37 x38 x39 x40 x41 x42 x43 x44 x45 x46 x47 x48 x49 x50 x51 x52 x53 x54 x55 x56 x57 x58 x59 x60 x61 x62 x63 x64 x65 x66 x67 x68 x69 x70 x71 x72 x73 x74 x75 x76 x77 x78 x79 x80 x81 x82 x83 x84 x85 x86 x87 x88 x89 x90 x91 x92 x93 x94 x95 x96 x97 x98 x99 x100 x101 x102 x103 x104 x105 x106 x107 x108 x109 x110 x111 x112 x113 x114 x115 x116 x117 x118 x119 x120 x121 x122 x123 x124 x125 x126 x127 x128 x129 x130 x131 x132 x133 x134 x135 x136 x137 x138 x139 x140 x141 x142 x143 x144 x145 x146 x147 x148 x149 x150 x151 x152 x153 x154 x155 x156 x157 x158 x159 x160 x161 x162 x163 x164 x165 x166 x167 x168 x169 x170 x171 x172 x173 x174 x175 x176 x177 x178 x179 x180 x181 x182 x183 x184 x185 x186 x187 x188 x189 x190 x191 x192 x193 x194 x195 x196 x197 x198 x199 x200 x201 x202 x203 x204 x205 x206 x207 x208 x209 x210 x211 x212 x213 x214 x215 x216 x217 x218 x219 : Value} (CU : Cut R a m b mid st r0 s s) (he : e = mid + m - s) (hn : b ≤ n ∧ n ≤ 100000 ∧ b - a ≤ f + 1) (ih : SymAt f) (Q : Exit → Act → World → Prop) (hQ : ∀ a' w', a'.defers = [] → (∃ R', RowG w' w0 base g n R' ∧ Seg a b n R R' ∧ Ordd R' a b) → Q .normal a' w') (h : RowG w w0 base g n R) (W0 : ∀ j, Wd (R j)) :
    Code.wp Try.prog (sB (sB (sB (sB (sB (sB (sB (sB (sB (Try.f92.body.getD .skip)))))))))) Q { tmps := #[(.slice (some ⟨g, 0, none⟩) n cap : Value), (.int .i64 a : Value), (.int .i64 m : Value), (.int .i64 b : Value), (.func (.func 36) #[] #[] : Value), x5, x6, x7, x8, x9, x10, x11, x12, x13, x14, x15, x16, x17, (.int .i64 mid : Value), x19, (.int .i64 s : Value), x21, x22, x23, (.int .i64 e : Value), x25, x26, x27, x28, x29, x30, x31, x32, x33, x34, x35, x36, x37, x38, x39, x40, x41, x42, x43, x44, x45, x46, x47, x48, x49, x50, x51, x52, x53, x54, x55, x56, x57, x58, x59, x60, x61, x62, x63, x64, x65, x66, x67, x68, x69, x70, x71, x72, x73, x74, x75, x76, x77, x78, x79, x80, x81, x82, x83, x84, x85, x86, x87, x88, x89, x90, x91, x92, x93, x94, x95, x96, x97, x98, x99, x100, x101, x102, x103, x104, x105, x106, x107, x108, x109, x110, x111, x112, x113, x114, x115, x116, x117, x118, x119, x120, x121, x122, x123, x124, x125, x126, x127, x128, x129, x130, x131, x132, x133, x134, x135, x136, x137, x138, x139, x140, x141, x142, x143, x144, x145, x146, x147, x148, x149, x150, x151, x152, x153, x154, x155, x156, x157, x158, x159, x160, x161, x162, x163, x164, x165, x166, x167, x168, x169, x170, x171, x172, x173, x174, x175, x176, x177, x178, x179, x180, x181, x182, x183, x184, x185, x186, x187, x188, x189, x190, x191, x192, x193, x194, x195, x196, x197, x198, x199, x200, x201, x202, x203, x204, x205, x206, x207, x208, x209, x210, x211, x212, x213, x214, x215, x216, x217, x218, x219], defers := [] } w := by
  have IH := Lib.hid ih
  have HQ := Lib.hid hQ
  have HN := Lib.hid hn
  have lim := CU.lim
  have LIM := Lib.hid (show a ≤ s ∧ s ≤ m ∧ s ≤ mid ∧ a < mid ∧ mid < b ∧ m ≤ e ∧ e ≤ b ∧ mid ≤ e ∧ e - m = mid - s by omega)
  have HE := Lib.hid he
  have HCU := Lib.hid CU
  have HR := Lib.hid h
  have HW := Lib.hid W0
  obtain ⟨B, hB⟩ : ∃ B, B = decide (s < m ∧ m < e) := ⟨_, rfl⟩
  have HB := Lib.hid hB
  clear CU he hn ih hQ lim h W0 hB
  simp only [Try.f92, Option.getD, sB]
  go_upto_region 39 with fail
  go_cut [185] from 178 to 184 (fun cv wx => cv = .bool B ∧ wx = w)
  case first =>
    by_cases x1 : s < m
    · by_cases x2 : m < e
      · have d1 : decide (s < m) = true := decide_eq_true x1
        have d2 : decide (m < e) = true := decide_eq_true x2
        have d1z : decide ((s : Int) < (m : Int)) = true := decide_eq_true (by omega)
        have d2z : decide ((m : Int) < (e : Int)) = true := decide_eq_true (by omega)
        go_wp2_with fail
        go_meet
        exact ⟨by rw [HB.out, decide_eq_true (And.intro x1 x2)], rfl⟩
      · have d1 : decide (s < m) = true := decide_eq_true x1
        have d2 : decide (m < e) = false := decide_eq_false x2
        have d1z : decide ((s : Int) < (m : Int)) = true := decide_eq_true (by omega)
        have d2z : decide ((m : Int) < (e : Int)) = false := decide_eq_false (by omega)
        go_wp2_with fail
        go_meet
        exact ⟨by rw [HB.out, decide_eq_false (fun h => x2 h.2)], rfl⟩
    · have d1 : decide (s < m) = false := decide_eq_false x1
      have d1z : decide ((s : Int) < (m : Int)) = false := decide_eq_false (by omega)
      go_wp2_with fail
      go_meet
      exact ⟨by rw [HB.out, decide_eq_false (fun h => x1 h.1)], rfl⟩
  case rest =>
  obtain ⟨rfl, rfl⟩ := hcut
  go_upto_if 185 with fail
  go_cut [] from 186 to 191 (fun wx => RowG wx w0 base g n (rc R m mid s) ∧ Seg a b n R (rc R m mid s))
  case first =>
    cases B with
    | true =>
      have x := of_decide_eq_true HB.out.symm
      have K := rotate_any HR.out cap s m e CMPF x.1 x.2 (by have := HN.out; have := LIM.out; omega) HN.out.2.1
      rw [LIM.out.2.2.2.2.2.2.2.2] at K
      unfold CMPF at K
      have K := Lib.hid K
      clear x
      go_wp2_with fail
      refine K.out.mono ?_
      rintro _ w5 ⟨rfl, h5, s5⟩
      have H5 := Lib.hid h5
      have S5 := Lib.hid s5
      clear h5 s5
      go_wp2_with fail
      go_meet
      exact ⟨H5.out, S5.out.mono LIM.out.1 LIM.out.2.2.2.2.2.2.1⟩
    | false =>
      have x := of_decide_eq_false HB.out.symm
      have hrc : rc R m mid s = R := rt_none (by have := LIM.out; omega) (by have := LIM.out; omega)
      have HRC := Lib.hid hrc
      clear x hrc
      go_wp2_with fail
      go_meet
      rw [HRC.out]; exact ⟨HR.out, Seg.refl ..⟩
  case rest =>
  obtain ⟨h1, s1⟩ := hcut
  rename_i hk wz
  refine hk _ _ ?_
  exact t41 HCU.out HE.out HN.out IH.out Q HQ.out h1 (s1.wd HW.out) rfl s1
end Go.Proofs.Ytfhcgnkjncfeiaa
