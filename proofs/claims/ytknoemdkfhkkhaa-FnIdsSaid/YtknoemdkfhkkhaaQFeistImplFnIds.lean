/- The program's four passes. -/
import Derived.Test.YtknoemdkfhkkhaaQFeistFnIds
import Derived.Test.YtknoemdkfhkkhaaQXoredFnIds
set_option linter.unusedVariables false
set_option linter.unusedSimpArgs false
namespace Go.Proofs.Ytknoemdkfhkkhaa.CFnIds
open Go Go.Proofs Go.Proofs.YtknoemdkfhkkhaaPM Go.Proofs.Ytknoemdkfhkkhaa.Q Go.Proofs.Ytknoemdkfhkkhaa.GFnIds

theorem tmod2 (n : Nat) : Int.tmod (n : Int) 2 = ((n % 2 : Nat) : Int) := by rw [Int.tmod_eq_emod_of_nonneg (by omega)]; omega
theorem and240 : ∀ x : Fin 256, Go.bits .and .u8 ((x : Nat) : Int) 240 = (((x : Nat) &&& 240 : Nat) : Int) := by decide +kernel
theorem and15 : ∀ x : Fin 256, Go.bits .and .u8 ((x : Nat) : Int) 15 = (((x : Nat) &&& 15 : Nat) : Int) := by decide +kernel
theorem bits_or_nat (k : IntKind) (j : Nat) (hj : j ≤ k.bits) (hk : ∀ n : Int, 0 ≤ n → n < 2 ^ j → k.wrap n = n) (a b : Nat) (ha : a < 2 ^ j) (hb : b < 2 ^ j) :
    Go.bits .or k a b = ((a ||| b : Nat) : Int) := by
  have hp : 2 ^ j ≤ 2 ^ k.bits := Nat.pow_le_pow_right (by decide) hj
  have ha' : a % 2 ^ k.bits = a := Nat.mod_eq_of_lt (Nat.lt_of_lt_of_le ha hp)
  have hb' : b % 2 ^ k.bits = b := Nat.mod_eq_of_lt (Nat.lt_of_lt_of_le hb hp)
  simp only [Go.bits, BitVec.ofInt_natCast, BitVec.toNat_or, BitVec.toNat_ofNat, ha', hb']
  exact hk _ (Int.natCast_nonneg _) (by exact_mod_cast Nat.or_lt_two_pow ha hb)
theorem or_u8 {a b : Nat} (ha : a < 256) (hb : b < 256) : Go.bits .or .u8 (a : Int) (b : Int) = ((a ||| b : Nat) : Int) := bits_or_nat .u8 8 (by decide) wraps_u8 a b ha hb
theorem setL {s : ByteArray} {n : Nat} (h1 : 0 < s.size) (hn : n % 2 = 1) (hs : s.size = (n + 1) / 2) :
    strL ((bytesL s).set (s.size - 1) (Go.bits .and .u8 ((bytesL s).getD (s.size - 1) 0) 240)) = TM (mL n) s := by
  rw [byteAt_bytesL, and240 ⟨_, byteAt_lt _ _⟩, bytesL_L, L_set, TM]
  congr 1
  refine L_eq fun j hj => ?_
  unfold mL
  by_cases e : j = s.size - 1
  · subst e; rw [if_pos rfl, if_pos (by omega)]
  · rw [if_neg e, if_neg (by omega), and255 (byteAt_lt _ _)]
theorem setR {s : ByteArray} {n : Nat} (h1 : 0 < s.size) (hn : n % 2 = 1) :
    strL ((bytesL s).set 0 (Go.bits .and .u8 ((bytesL s).getD 0 0) 15)) = TM (mR n) s := by
  rw [byteAt_bytesL, and15 ⟨_, byteAt_lt _ _⟩, bytesL_L, L_set, TM]
  congr 1
  refine L_eq fun j hj => ?_
  unfold mR
  by_cases e : j = 0
  · subst e; rw [if_pos rfl, if_pos ⟨hn, rfl⟩]
  · rw [if_neg e, if_neg (by omega), and255 (byteAt_lt _ _)]
theorem TM_even {n : Nat} (h : n % 2 = 0) (s : ByteArray) : TM (mL n) s = s ∧ TM (mR n) s = s :=
  ⟨TM_all fun i _ => by rw [mL, if_neg (by omega)], TM_all fun i _ => by rw [mR, if_neg (by omega)]⟩
section
variable {p2 p3 : List Int}
theorem trim_ok {n : Nat} {l r : ByteArray} (hn : 2 ≤ n ∧ n ≤ 1000) (hl : l.size = (n + 1) / 2) (hr : r.size = (n + 1) / 2) :
    EvP (fun N => impl_halves_trim N (n : Int) l r p2 p3) (· = ((), (((), ((n : Int), (TM (mL n) l, (TM (mR n) r, ())))), (((), ((), ())), (p2, (p3, ())))))) := by
  refine EvP.of (fun N => impl_halves_trim.eq N _ _ _ _ _) ?_
  rw [tmod2]
  by_cases h : n % 2 = 0
  · obtain ⟨e1, _⟩ := TM_even h l
    obtain ⟨_, e2⟩ := TM_even h r
    exact EvP.pos (by omega) (EvP.some (by rw [e1, e2]))
  · have hl2 : (bytesL l).length = l.size := bytesL_len l
    have hr2 : (bytesL r).length = r.size := bytesL_len r
    refine EvP.neg (by omega) ?_
    rw [hl2, hr2, i64w (n := (l.size : Int) - 1) (by omega) (by omega), show Int.toNat ((l.size : Int) - 1) = l.size - 1 by omega]
    refine EvP.chk2 (by omega) (by omega) (EvP.chk2 (by omega) (by omega) (EvP.chk1 (by omega) (EvP.chk1 (by omega) (EvP.some ?_))))
    rw [setL (n := n) (by omega) (by omega) hl, setR (n := n) (by omega) (by omega)]
theorem two_bytes (n p : Int) : strL [IntKind.u8.wrap n, IntKind.u8.wrap p] = be 1 n ++ be 1 p := by
  rw [u8w, u8w, show [n % 256, p % 256] = [n % 256] ++ [p % 256] from rfl, strL_append]
  rfl
theorem halfBlock_ok {s : ByteArray} {n p : Nat} (hs : s.size ≤ 14) (hp : p ≤ 1000) : EvP (fun N => impl_halfBlock N s (n : Int) (p : Int)) (· = ((hb s n p, ()), ())) := by
  have e1 : (⟨#[0]⟩ : ByteArray).size = 1 := rfl
  refine EvP.of (fun N => impl_halfBlock.eq N _ _ _) ?_
  rw [i64w (n := 14 - (s.size : Int)) (by omega) (by omega), two_bytes, tmod2]
  refine EvP.to (a := ((zs (14 - s.size), ()), ())) (EvP.of (fun N => strings_Repeat.eq N _ _) (EvP.chk1 (by omega) (EvP.chk1 (by omega) (EvP.chk1 (by rw [e1]; omega) (EvP.some (by rw [show Int.toNat (14 - (s.size : Int)) = 14 - s.size by omega, repL_zs])))))) ?_
  dsimp only
  unfold hb
  by_cases h : p % 2 = 1
  · rw [if_pos h]
    exact EvP.pos (by omega) (EvP.chk1 (by rw [zs_size]; omega) (EvP.chk1 (by rw [ByteArray.size_append, ByteArray.size_append, zs_size, be_size, be_size]; omega) (EvP.some rfl)))
  · rw [if_neg h]
    exact EvP.neg (by omega) (EvP.chk1 (by rw [ByteArray.size_append, zs_size, be_size, be_size]; omega) (EvP.chk1 (by rw [ByteArray.size_append, ByteArray.size_append, zs_size, be_size, be_size]; omega) (EvP.some rfl)))
theorem pass_ok {key : ByteArray} (hb2 : BoxOK p2) {n p : Nat} {x : HS} (h : Ok n x) (hn : 2 ≤ n ∧ n ≤ 19) (hp : p ≤ 1000) :
    EvP (fun N => impl_halves_pass N (p : Int) (n : Int) x.1 x.2 p2 (L 176 (KW key))) (· = ((), (((), ((n : Int), ((ps key n p x).1, ((ps key n p x).2, ())))), (((), ((), ())), (p2, (L 176 (KW key), ())))))) := by
  have hl := h.l
  have hr := h.r
  have enc : ∀ s : ByteArray, s.size = 16 → EvP (fun N => impl_cipher_encrypt N s p2 (L 176 (KW key))) (· = ((aes key s, ()), (((), ((), ())), (p2, (L 176 (KW key), ()))))) := fun s hs => encrypt_ok (KW_by key) hb2 hs
  have sz : ∀ s, (aes key s).size = 16 := fun s => size16 _
  refine EvP.of (fun N => impl_halves_pass.eq N _ _ _ _ _ _) ?_
  rw [tmod2]
  by_cases hq : p % 2 = 1
  · refine EvP.to (a := ((((), ()), (((), ((n : Int), (x.1, (xs x.2 (aes key (hb x.1 n p)), ())))), (((), ((), ())), (p2, (L 176 (KW key), ()))))))) (EvP.pos (by omega) (EvP.to (halfBlock_ok (by omega) hp) (EvP.to (enc _ (hb_size (by omega))) (EvP.to (xored_ok (by rw [sz]; omega) (by omega)) (EvP.some rfl))))) ?_
    refine EvP.to (trim_ok (by omega) hl (by rw [xs_size]; exact hr)) (EvP.some ?_)
    rw [h.tl, ps, if_pos hq]
  · refine EvP.to (a := ((((), ()), (((), ((n : Int), (xs x.1 (aes key (hb x.2 n p)), (x.2, ())))), (((), ((), ())), (p2, (L 176 (KW key), ()))))))) (EvP.neg (by omega) (EvP.to (halfBlock_ok (by omega) hp) (EvP.to (enc _ (hb_size (by omega))) (EvP.to (xored_ok (by rw [sz]; omega) (by omega)) (EvP.some rfl))))) ?_
    refine EvP.to (trim_ok (by omega) (by rw [xs_size]; exact hl) hr) (EvP.some ?_)
    rw [h.tr, ps, if_neg hq]
theorem text_ok {n : Nat} {x : HS} (h : Ok n x) (hn : 2 ≤ n ∧ n ≤ 19) : EvP (fun N => impl_halves_text N (n : Int) x.1 x.2 p2 p3) (fun r => r.1.1 = jn n x) := by
  have hl := h.l
  have hr := h.r
  refine EvP.of (fun N => impl_halves_text.eq N _ _ _ _ _) ?_
  rw [tmod2]
  by_cases hq : n % 2 = 0
  · refine EvP.pos (by omega) (EvP.chk1 (by omega) (EvP.some ?_))
    dsimp only
    refine str_ext (by rw [ByteArray.size_append, jn_size]; omega) fun i hi => ?_
    rw [ByteArray.size_append] at hi
    rw [byteAt_jn (by omega)]
    by_cases hi2 : i < x.1.size
    · rw [byteAt_app_left hi2, if_pos (by omega)]
    · rw [byteAt_app_right (by omega), if_neg (by omega), if_neg (by omega), show n - (n + 1) / 2 = x.1.size by omega]
  · have e1 : (strL [((byteAt x.1 (x.1.size - 1) ||| byteAt x.2 0 : Nat) : Int)]).size = 1 := by rw [strL_size]; rfl
    have e2 : (x.1.extract 0 (x.1.size - 1)).size = x.1.size - 1 := by rw [extract_size (by omega)]; omega
    have e3 : (x.2.extract 1 x.2.size).size = x.2.size - 1 := by rw [extract_size (by omega)]
    refine EvP.neg (by omega) ?_
    rw [i64w (n := (x.1.size : Int) - 1) (by omega) (by omega), show Int.toNat ((x.1.size : Int) - 1) = x.1.size - 1 by omega, Int.toNat_natCast, byteAt_bytesL, byteAt_bytesL, or_u8 (byteAt_lt _ _) (byteAt_lt _ _)]
    refine EvP.chk2 (by omega) (by omega) (EvP.chk2 (by omega) (by omega) (EvP.chk1 (by omega) (EvP.chk1 (by omega) (EvP.chk2 (by omega) (by omega) (EvP.chk1 (by rw [ByteArray.size_append]; omega) (EvP.some ?_))))))
    dsimp only
    refine str_ext (by rw [ByteArray.size_append, ByteArray.size_append, jn_size]; omega) fun i hi => ?_
    rw [ByteArray.size_append, ByteArray.size_append] at hi
    rw [byteAt_jn (by omega)]
    by_cases hi2 : i < x.1.size - 1
    · rw [byteAt_app_left (by rw [ByteArray.size_append]; omega), byteAt_app_left (by omega), byteAt_extract (by omega), if_pos (by omega), Nat.zero_add]
    · rw [if_neg (by omega)]
      by_cases hi3 : i = x.1.size - 1
      · rw [byteAt_app_left (by rw [ByteArray.size_append]; omega), byteAt_app_right (by omega), if_pos (by omega), show i - (n - (n + 1) / 2) = 0 by omega, e2, hi3, Nat.sub_self]
        have hb : Bytes [((byteAt x.1 (x.1.size - 1) ||| byteAt x.2 0 : Nat) : Int)] := fun y hy => by
          rw [List.mem_singleton.1 hy]
          have := or_lt (byteAt_lt x.1 (x.1.size - 1)) (byteAt_lt x.2 0)
          omega
        have := byteAt_str hb 0
        have e4 : ([((byteAt x.1 (x.1.size - 1) ||| byteAt x.2 0 : Nat) : Int)] : List Int).getD 0 0 = ((byteAt x.1 (x.1.size - 1) ||| byteAt x.2 0 : Nat) : Int) := rfl
        rw [e4] at this
        omega
      · rw [byteAt_app_right (by rw [ByteArray.size_append]; omega), ByteArray.size_append, e1, e2, byteAt_extract (by omega), if_neg (by omega)]
        congr 1
        omega
theorem halvesOf_ok {key s : ByteArray} (hk : key.size = 16) (hs : 2 ≤ s.size ∧ s.size ≤ 19) :
    EvP (fun N => impl_halvesOf N key s) (fun r => ∃ p2, BoxOK p2 ∧ r.2 = (((), ((s.size : Int), ((ct s).1, ((ct s).2, ())))), (((), ((), ())), (p2, (L 176 (KW key), ()))))) := by
  refine EvP.of (fun N => impl_halvesOf.eq N _ _) (EvP.andK (cipherOf_ok hk) ?_)
  rintro r ⟨hb2, hr⟩
  rw [hr, i64w (n := (s.size : Int) + 1) (by omega) (by omega), Int.tdiv_eq_ediv_of_nonneg (by omega), i64w (n := ((s.size : Int) + 1) / 2) (by omega) (by omega), i64w (n := (s.size : Int) - ((s.size : Int) + 1) / 2) (by omega) (by omega)]
  refine EvP.chk2 (by omega) (by omega) (EvP.chk3 (by omega) (by omega) (by omega) ?_)
  rw [show Int.toNat (((s.size : Int) + 1) / 2) = (s.size + 1) / 2 by omega, show Int.toNat ((s.size : Int) - ((s.size : Int) + 1) / 2) = s.size - (s.size + 1) / 2 by omega, Int.toNat_natCast]
  exact EvP.to (trim_ok (by omega) (by rw [extract_size (by omega)]; omega) (by rw [extract_size (by omega)]; omega)) (EvP.some ⟨_, hb2, rfl⟩)
theorem forth_l0 {key : ByteArray} (hb2 : BoxOK p2) {n : Nat} {x : HS} (h : Ok n x) (hn : 2 ≤ n ∧ n ≤ 19) :
    EvP (fun N => impl_fourPasses.l0 N 1 (n : Int) x.1 x.2 p2 (L 176 (KW key))) (· = ((((), ()), (((), ((n : Int), ((ps key n 4 (ps key n 3 (ps key n 2 (ps key n 1 x)))).1, ((ps key n 4 (ps key n 3 (ps key n 2 (ps key n 1 x)))).2, ())))), (((), ((), ())), (p2, (L 176 (KW key), ()))))))) := by
  have h1 := h.ps key 1
  have h2 := h1.ps key 2
  have h3 := h2.ps key 3
  refine EvP.step (fun N => impl_fourPasses.l0.eq N _ _ _ _ _ _) (EvP.pos (by decide) (EvP.to (pass_ok (p := 1) hb2 h hn (by decide)) ?_))
  refine EvP.step (fun N => impl_fourPasses.l0.eq N _ _ _ _ _ _) (EvP.pos (by decide) (EvP.to (pass_ok (p := 2) hb2 h1 hn (by decide)) ?_))
  refine EvP.step (fun N => impl_fourPasses.l0.eq N _ _ _ _ _ _) (EvP.pos (by decide) (EvP.to (pass_ok (p := 3) hb2 h2 hn (by decide)) ?_))
  refine EvP.step (fun N => impl_fourPasses.l0.eq N _ _ _ _ _ _) (EvP.pos (by decide) (EvP.to (pass_ok (p := 4) hb2 h3 hn (by decide)) ?_))
  exact EvP.step (fun N => impl_fourPasses.l0.eq N _ _ _ _ _ _) (EvP.neg (by decide) (EvP.some rfl))
theorem back_l0 {key : ByteArray} (hb2 : BoxOK p2) {n : Nat} {x : HS} (h : Ok n x) (hn : 2 ≤ n ∧ n ≤ 19) :
    EvP (fun N => impl_fourBack.l0 N 4 (n : Int) x.1 x.2 p2 (L 176 (KW key))) (· = ((((), ()), (((), ((n : Int), ((ps key n 1 (ps key n 2 (ps key n 3 (ps key n 4 x)))).1, ((ps key n 1 (ps key n 2 (ps key n 3 (ps key n 4 x)))).2, ())))), (((), ((), ())), (p2, (L 176 (KW key), ()))))))) := by
  have h1 := h.ps key 4
  have h2 := h1.ps key 3
  have h3 := h2.ps key 2
  refine EvP.step (fun N => impl_fourBack.l0.eq N _ _ _ _ _ _) (EvP.pos (by decide) (EvP.to (pass_ok (p := 4) hb2 h hn (by decide)) ?_))
  refine EvP.step (fun N => impl_fourBack.l0.eq N _ _ _ _ _ _) (EvP.pos (by decide) (EvP.to (pass_ok (p := 3) hb2 h1 hn (by decide)) ?_))
  refine EvP.step (fun N => impl_fourBack.l0.eq N _ _ _ _ _ _) (EvP.pos (by decide) (EvP.to (pass_ok (p := 2) hb2 h2 hn (by decide)) ?_))
  refine EvP.step (fun N => impl_fourBack.l0.eq N _ _ _ _ _ _) (EvP.pos (by decide) (EvP.to (pass_ok (p := 1) hb2 h3 hn (by decide)) ?_))
  exact EvP.step (fun N => impl_fourBack.l0.eq N _ _ _ _ _ _) (EvP.neg (by decide) (EvP.some rfl))
end
theorem text_then {n : Nat} {y : HS} (h4 : Ok n y) (hn : 2 ≤ n ∧ n ≤ 19) {g : Nat → Option ((Unit × Unit) × ((Unit × (Int × (ByteArray × (ByteArray × Unit)))) × ((Unit × (Unit × Unit)) × (List Int × (List Int × Unit)))))} {p2 p3 : List Int}
    (hA : EvP g (· = ((((), ()), (((), ((n : Int), (y.1, (y.2, ())))), (((), ((), ())), (p2, (p3, ())))))))) :
    EvP (fun N => andK (g N) fun l3 => andK (impl_halves_text N l3.2.1.2.1 l3.2.1.2.2.1 l3.2.1.2.2.2.1 l3.2.2.2.1 l3.2.2.2.2.1) fun u4 => some ((u4.1.1, ()), ())) (· = ((jn n y, ()), ())) := by
  refine EvP.to hA ?_
  dsimp only
  refine EvP.andK (text_ok h4 hn) ?_
  intro r hr
  exact EvP.some (by rw [hr])
theorem forth_y {key s : ByteArray} (hs : 2 ≤ s.size ∧ s.size ≤ 19) {p2 : List Int} (hb2 : BoxOK p2) : ∃ y, fourP key s = jn s.size y ∧ Ok s.size y ∧
    EvP (fun N => impl_fourPasses.l0 N 1 (s.size : Int) (ct s).1 (ct s).2 p2 (L 176 (KW key))) (· = ((((), ()), (((), ((s.size : Int), (y.1, (y.2, ())))), (((), ((), ())), (p2, (L 176 (KW key), ()))))))) :=
  ⟨_, rfl, ((((ct_ok (s := s) (by omega)).ps key 1).ps key 2).ps key 3).ps key 4, forth_l0 (key := key) hb2 (ct_ok (s := s) (by omega)) hs⟩
theorem back_y {key s : ByteArray} (hs : 2 ≤ s.size ∧ s.size ≤ 19) {p2 : List Int} (hb2 : BoxOK p2) : ∃ y, fourB key s = jn s.size y ∧ Ok s.size y ∧
    EvP (fun N => impl_fourBack.l0 N 4 (s.size : Int) (ct s).1 (ct s).2 p2 (L 176 (KW key))) (· = ((((), ()), (((), ((s.size : Int), (y.1, (y.2, ())))), (((), ((), ())), (p2, (L 176 (KW key), ()))))))) :=
  ⟨_, rfl, ((((ct_ok (s := s) (by omega)).ps key 4).ps key 3).ps key 2).ps key 1, back_l0 (key := key) hb2 (ct_ok (s := s) (by omega)) hs⟩
theorem fourP_impl {key s : ByteArray} (hk : key.size = 16) (hs : 2 ≤ s.size ∧ s.size ≤ 19) : EvP (fun N => impl_fourPasses N key s) (· = ((fourP key s, ()), ())) := by
  refine EvP.of (fun N => impl_fourPasses.eq N _ _) (EvP.andK (halvesOf_ok hk hs) ?_)
  rintro ⟨r1, r2⟩ ⟨p2, hb2, rfl⟩
  obtain ⟨y, e, h4, hA⟩ := forth_y (key := key) hs hb2
  rw [e]
  exact text_then h4 hs hA
theorem fourB_impl {key s : ByteArray} (hk : key.size = 16) (hs : 2 ≤ s.size ∧ s.size ≤ 19) : EvP (fun N => impl_fourBack N key s) (· = ((fourB key s, ()), ())) := by
  refine EvP.of (fun N => impl_fourBack.eq N _ _) (EvP.andK (halvesOf_ok hk hs) ?_)
  rintro ⟨r1, r2⟩ ⟨p2, hb2, rfl⟩
  obtain ⟨y, e, h4, hA⟩ := back_y (key := key) hs hb2
  rw [e]
  exact text_then h4 hs hA
end Go.Proofs.Ytknoemdkfhkkhaa.CFnIds
