/- FnIds: both packages make the same id, and a server's id and its nonce come back from it, whatever stands behind it. -/
import Derived.Test.YtknoemdkfhkkhaaQFeistSpecFnIds
import Derived.Test.YtknoemdkfhkkhaaQAesDecFnIds
import Derived.Test.YtknoemdkfhkkhaaQInFnIds
import Derived.Test.YtknoemdkfhkkhaaQBeImplFnIds
import Derived.Test.YtknoemdkfhkkhaaSFnIds
set_option linter.unusedVariables false
set_option linter.unusedSimpArgs false
namespace Go.Proofs.Ytknoemdkfhkkhaa.Pure
open Go Go.Proofs Go.Proofs.YtknoemdkfhkkhaaPM Go.Proofs.Ytknoemdkfhkkhaa.Q Go.Proofs.Ytknoemdkfhkkhaa.CFnIds Go.Proofs.Ytknoemdkfhkkhaa.GFnIds

abbrev Cfg := Int × (Int × (Int × (ByteArray × (Bool × Unit))))
def GC (c0 c1 c2 : Int) (c3 : ByteArray) : Prop := (0 ≤ c0 ∧ c0 ≤ 6) ∧ (1 ≤ c1 ∧ c1 ≤ 15) ∧ (4 ≤ c2 ∧ c2 ≤ 18) ∧ c1 + c2 ≤ 19 ∧ (c3.size = 0 ∨ c3.size = 16)
instance (c0 c1 c2 : Int) (c3 : ByteArray) : Decidable (GC c0 c1 c2 c3) := by unfold GC; infer_instance
theorem nil_dec (s : ByteArray) : decide (s = (⟨#[]⟩ : ByteArray)) = decide (s.size = 0) := dec_eq (fun h => by rw [h]; rfl) (fun h => size_zero h)
theorem Good_impl (c0 c1 c2 : Int) (c3 : ByteArray) (c4 : Bool) (h1 : 0 ≤ c1 ∧ c1 ≤ 1000) (h2 : 0 ≤ c2 ∧ c2 ≤ 1000) : EvP (fun N => impl_GoodConfig N c0 c1 c2 c3 c4) (· = ((decide (GC c0 c1 c2 c3), ()), ())) := by
  refine EvP.of (fun N => impl_GoodConfig.eq N _ _ _ _ _) ?_
  rw [i64w (n := c1 + c2) (by omega) (by omega), nil_dec]
  refine EvP.to (in_impl _ 0 6) (EvP.ite (fun a1 => EvP.to (in_impl _ 1 15) (EvP.ite (fun a2 => EvP.to (in_impl _ 4 18) (EvP.ite (fun a3 => EvP.ite (fun a4 => EvP.ite (fun a5 => EvP.some ?_) (fun a5 => EvP.to (EvP.of (fun N => impl_isKey.eq N _) (EvP.some rfl)) (EvP.some ?_))) (fun a4 => EvP.some ?_)) (fun a3 => EvP.some ?_))) (fun a2 => EvP.some ?_))) (fun a1 => EvP.some ?_))
  · rw [decide_eq_true (by unfold GC; exact ⟨a1, a2, a3, a4, Or.inl a5⟩)]
  · dsimp only
    rw [dec_eq (q := GC c0 c1 c2 c3) (fun h => by unfold GC; exact ⟨a1, a2, a3, a4, Or.inr (by omega)⟩) (fun h => by unfold GC at h; omega)]
  · rw [decide_eq_false (by unfold GC; omega)]
  · rw [decide_eq_false (by unfold GC; omega)]
  · rw [decide_eq_false (by unfold GC; omega)]
  · rw [decide_eq_false (by unfold GC; omega)]
theorem Good_spec (c0 c1 c2 : Int) (c3 : ByteArray) (c4 : Bool) (h1 : 0 ≤ c1 ∧ c1 ≤ 1000) (h2 : 0 ≤ c2 ∧ c2 ≤ 1000) : EvP (fun N => spec_GoodConfig N c0 c1 c2 c3 c4) (· = ((decide (GC c0 c1 c2 c3), ()), ())) := by
  refine EvP.of (fun N => spec_GoodConfig.eq N _ _ _ _ _) ?_
  rw [i64w (n := c1 + c2) (by omega) (by omega), nil_dec]
  refine EvP.to (in_spec _ 0 6) (EvP.ite (fun a1 => EvP.to (in_spec _ 1 15) (EvP.ite (fun a2 => EvP.to (in_spec _ 4 18) (EvP.ite (fun a3 => EvP.ite (fun a4 => EvP.ite (fun a5 => EvP.some ?_) (fun a5 => EvP.some ?_)) (fun a4 => EvP.some ?_)) (fun a3 => EvP.some ?_))) (fun a2 => EvP.some ?_))) (fun a1 => EvP.some ?_))
  · rw [decide_eq_true (by unfold GC; exact ⟨a1, a2, a3, a4, Or.inl a5⟩)]
  · rw [dec_eq (q := GC c0 c1 c2 c3) (fun h => by unfold GC; exact ⟨a1, a2, a3, a4, Or.inr (by omega)⟩) (fun h => by unfold GC at h; omega)]
  · rw [decide_eq_false (by unfold GC; omega)]
  · rw [decide_eq_false (by unfold GC; omega)]
  · rw [decide_eq_false (by unfold GC; omega)]
  · rw [decide_eq_false (by unfold GC; omega)]
def EOk (c0 c1 c2 : Int) (c3 server nonce : ByteArray) (spare : Int) : Prop := GC c0 c1 c2 c3 ∧ (server.size : Int) = c1 ∧ (nonce.size : Int) = c2 ∧ (0 ≤ spare ∧ spare ≤ 31)
instance (c0 c1 c2 : Int) (c3 server nonce : ByteArray) (spare : Int) : Decidable (EOk c0 c1 c2 c3 server nonce spare) := by unfold EOk; infer_instance
def bodyF (c3 body : ByteArray) : ByteArray := if c3.size = 0 then body else if body.size = 16 then aes c3 body else fourP c3 body
def bodyB (c3 body : ByteArray) : ByteArray := if c3.size = 0 then body else if body.size = 16 then aesBack c3 body else fourB c3 body
theorem bodyF_size (c3 body : ByteArray) : (bodyF c3 body).size = body.size := by
  unfold bodyF
  split
  · rfl
  · split
    · rename_i h; rw [h]; exact size16 _
    · exact fourP_size _ _
theorem bodyB_F {c3 body : ByteArray} (h : 0 < body.size) : bodyB c3 (bodyF c3 body) = body := by
  unfold bodyB
  rw [bodyF_size]
  unfold bodyF
  split
  · rfl
  · split
    · rename_i h; exact back_aes c3 h
    · exact fourB_P h
def lowF (c4 : Bool) (body : ByteArray) (spare : Int) : Int := if c4 = true then (body.size : Int) else spare
def encF (c0 : Int) (c3 : ByteArray) (c4 : Bool) (server nonce : ByteArray) (spare : Int) : ByteArray := be 1 (c0 * 32 + lowF c4 (server ++ nonce) spare) ++ bodyF c3 (server ++ nonce)
def encR (c0 c1 c2 : Int) (c3 : ByteArray) (c4 : Bool) (server nonce : ByteArray) (spare : Int) : (ByteArray × (Bool × Unit)) × Unit :=
  if EOk c0 c1 c2 c3 server nonce spare then ((encF c0 c3 c4 server nonce spare, (true, ())), ()) else (((⟨#[]⟩ : ByteArray), (false, ())), ())
theorem kind_ok (c0 c1 c2 : Int) (c3 : ByteArray) (c4 : Bool) (h1 : 0 ≤ c1 ∧ c1 ≤ 1000) (h2 : 0 ≤ c2 ∧ c2 ≤ 1000) :
    EvP (fun N => impl_IdConfig_kind N c0 c1 c2 c3 c4) (· = (((if c3.size = 0 then 0 else if c1 + c2 = 16 then 1 else 2), ()), ((c0, (c1, (c2, (c3, (c4, ()))))), ()))) := by
  refine EvP.of (fun N => impl_IdConfig_kind.eq N _ _ _ _ _) ?_
  rw [i64w (n := c1 + c2) (by omega) (by omega), nil_dec]
  refine EvP.ite (fun h => EvP.some (by rw [if_pos h])) (fun h => EvP.ite (fun h3 => EvP.some (by rw [if_neg h, if_pos h3])) (fun h3 => EvP.some (by rw [if_neg h, if_neg h3])))
theorem kind_spec (c0 c1 c2 : Int) (c3 : ByteArray) (c4 : Bool) (h1 : 0 ≤ c1 ∧ c1 ≤ 1000) (h2 : 0 ≤ c2 ∧ c2 ≤ 1000) :
    EvP (fun N => spec_l7Kind N c0 c1 c2 c3 c4) (· = (((if c3.size = 0 then 0 else if c1 + c2 = 16 then 1 else 2), ()), ())) := by
  refine EvP.of (fun N => spec_l7Kind.eq N _ _ _ _ _) ?_
  rw [i64w (n := c1 + c2) (by omega) (by omega), nil_dec]
  refine EvP.ite (fun h => EvP.some (by rw [if_pos h])) (fun h => EvP.ite (fun h3 => EvP.some (by rw [if_neg h, if_pos h3])) (fun h3 => EvP.some (by rw [if_neg h, if_neg h3])))
theorem Encode_impl (c0 c1 c2 : Int) (c3 : ByteArray) (c4 : Bool) (server nonce : ByteArray) (spare : Int) (h1 : 0 ≤ c1 ∧ c1 ≤ 1000) (h2 : 0 ≤ c2 ∧ c2 ≤ 1000) :
    EvP (fun N => impl_EncodeId N c0 c1 c2 c3 c4 server nonce spare) (· = encR c0 c1 c2 c3 c4 server nonce spare) := by
  refine EvP.of (fun N => impl_EncodeId.eq N _ _ _ _ _ _ _ _) (EvP.to (a := (((), ((!(decide (EOk c0 c1 c2 c3 server nonce spare))), ())), ((c0, (c1, (c2, (c3, (c4, ()))))), ()))) ?_ (EvP.nite (fun h => EvP.some ?_) (fun h => ?_)))
  · refine EvP.to (Good_impl c0 c1 c2 c3 c4 h1 h2) (EvP.nite (fun a1 => EvP.some ?_) (fun a1 => EvP.nite (fun a2 => EvP.some ?_) (fun a2 => EvP.nite (fun a3 => EvP.some ?_) (fun a3 => EvP.to (in_impl _ 0 31) (EvP.some ?_)))))
    · rw [decide_eq_false (fun h => a1 h.1)]; rfl
    · rw [decide_eq_false (fun h => a2 h.2.1)]; rfl
    · rw [decide_eq_false (fun h => a3 h.2.2.1)]; rfl
    · dsimp only
      rw [dec_eq (q := EOk c0 c1 c2 c3 server nonce spare) (fun h => ⟨a1, a2, a3, h⟩) (fun h => h.2.2.2)]
  · rw [encR, if_neg h]
  · obtain ⟨g, e1, e2, e3⟩ := h
    have g2 := g
    unfold GC at g2
    have hsz : (server ++ nonce).size = server.size + nonce.size := ByteArray.size_append
    have hbz := bodyF_size c3 (server ++ nonce)
    refine EvP.chk1 (by omega) ?_
    refine EvP.to (a := ((lowF c4 (server ++ nonce) spare, ((), ())), ((c0, (c1, (c2, (c3, (c4, ()))))), ()))) ?_ ?_
    · cases c4 with
      | true => exact EvP.yes rfl (EvP.some rfl)
      | false => exact EvP.no rfl (EvP.some rfl)
    · have hlow : 0 ≤ lowF c4 (server ++ nonce) spare ∧ lowF c4 (server ++ nonce) spare ≤ 31 := by unfold lowF; split <;> omega
      refine EvP.to (a := (((), (bodyF c3 (server ++ nonce), ())), ((c0, (c1, (c2, (c3, (c4, ()))))), ()))) ?_ ?_
      · refine EvP.to (kind_ok c0 c1 c2 c3 c4 h1 h2) ?_
        dsimp only
        unfold bodyF
        by_cases z : c3.size = 0
        · rw [if_pos z, if_pos z]
          exact EvP.neg (by decide) (EvP.neg (by decide) (EvP.some rfl))
        · rw [if_neg z, if_neg z]
          have hk : c3.size = 16 := by omega
          by_cases z2 : c1 + c2 = 16
          · rw [if_pos z2, if_pos (by omega)]
            refine EvP.pos rfl (EvP.andK (cipherOf_ok hk) ?_)
            rintro r ⟨hb2, hr⟩
            rw [hr]
            exact EvP.to (encrypt_ok (KW_by c3) hb2 (by omega)) (EvP.some rfl)
          · rw [if_neg z2, if_neg (by omega)]
            exact EvP.neg (by decide) (EvP.pos rfl (EvP.to (fourP_impl hk (by omega)) (EvP.some rfl)))
      · dsimp only
        rw [i64w (n := c0 * 32) (by omega) (by omega), i64w (n := c0 * 32 + lowF c4 (server ++ nonce) spare) (by omega) (by omega), u64i (n := c0 * 32 + lowF c4 (server ++ nonce) spare) (by omega) (by omega)]
        refine EvP.to (bigEndian_ok _ 1 (by omega) (by decide)) (EvP.chk1 (by (try dsimp only); rw [be_size]; omega) (EvP.some ?_))
        rw [encR, if_pos ⟨g, e1, e2, e3⟩]
        rfl
theorem or_tab : ∀ a : Fin 7, ∀ b : Fin 32, Go.bits .or .i64 (shlI .i64 ((a : Nat) : Int) 5) ((b : Nat) : Int) = ((a : Nat) : Int) * 32 + ((b : Nat) : Int) := by decide +kernel
theorem Encode_spec (c0 c1 c2 : Int) (c3 : ByteArray) (c4 : Bool) (server nonce : ByteArray) (spare : Int) (h1 : 0 ≤ c1 ∧ c1 ≤ 1000) (h2 : 0 ≤ c2 ∧ c2 ≤ 1000) :
    EvP (fun N => spec_EncodeId N c0 c1 c2 c3 c4 server nonce spare) (· = encR c0 c1 c2 c3 c4 server nonce spare) := by
  refine EvP.of (fun N => spec_EncodeId.eq N _ _ _ _ _ _ _ _) (EvP.to (a := (((), ((!(decide (EOk c0 c1 c2 c3 server nonce spare))), ())), ((c0, (c1, (c2, (c3, (c4, ()))))), ()))) ?_ (EvP.nite (fun h => EvP.some ?_) (fun h => ?_)))
  · refine EvP.to (Good_spec c0 c1 c2 c3 c4 h1 h2) (EvP.nite (fun a1 => EvP.some ?_) (fun a1 => EvP.nite (fun a2 => EvP.some ?_) (fun a2 => EvP.nite (fun a3 => EvP.some ?_) (fun a3 => EvP.to (in_spec _ 0 31) (EvP.some ?_)))))
    · rw [decide_eq_false (fun h => a1 h.1)]; rfl
    · rw [decide_eq_false (fun h => a2 h.2.1)]; rfl
    · rw [decide_eq_false (fun h => a3 h.2.2.1)]; rfl
    · dsimp only
      rw [dec_eq (q := EOk c0 c1 c2 c3 server nonce spare) (fun h => ⟨a1, a2, a3, h⟩) (fun h => h.2.2.2)]
  · rw [encR, if_neg h]
  · obtain ⟨g, e1, e2, e3⟩ := h
    have g2 := g
    unfold GC at g2
    have hsz : (server ++ nonce).size = server.size + nonce.size := ByteArray.size_append
    have hbz := bodyF_size c3 (server ++ nonce)
    refine EvP.to (a := ((encF c0 c3 c4 server nonce spare, ()), ())) (EvP.of (fun N => spec_l7Encode.eq N _ _ _ _ _ _ _ _) ?_) (EvP.some (by rw [encR, if_pos ⟨g, e1, e2, e3⟩]))
    rw [i64w (n := c1 + c2) (by omega) (by omega)]
    refine EvP.to (a := ((lowF c4 (server ++ nonce) spare, ((), ())), ((c0, (c1, (c2, (c3, (c4, ()))))), ()))) ?_ ?_
    · cases c4 with
      | true => exact EvP.yes rfl (EvP.some (by unfold lowF; rw [if_pos rfl, hsz]; congr 2; omega))
      | false => exact EvP.no rfl (EvP.some rfl)
    · have hlow : 0 ≤ lowF c4 (server ++ nonce) spare ∧ lowF c4 (server ++ nonce) spare ≤ 31 := by unfold lowF; split <;> omega
      refine EvP.chk1 (by omega) (EvP.to (a := (((), (bodyF c3 (server ++ nonce), ())), ((c0, (c1, (c2, (c3, (c4, ()))))), ()))) ?_ ?_)
      · refine EvP.to (kind_spec c0 c1 c2 c3 c4 h1 h2) ?_
        dsimp only
        unfold bodyF
        by_cases z : c3.size = 0
        · rw [if_pos z, if_pos z]
          exact EvP.neg (by decide) (EvP.neg (by decide) (EvP.some rfl))
        · rw [if_neg z, if_neg z]
          have hk : c3.size = 16 := by omega
          by_cases z2 : c1 + c2 = 16
          · rw [if_pos z2, if_pos (by omega)]
            refine EvP.pos rfl (EvP.to (a := ((aes c3 (server ++ nonce), ()), ())) (EvP.of (fun N => spec_l3Block.eq N _ _) (EvP.andK (keys_spec hk) fun r hr => EvP.andK table_spec fun u hu => ?_)) (EvP.some rfl))
            rw [hr, hu]
            exact EvP.to (with_ok (KW_by c3) (by omega)) (EvP.some rfl)
          · rw [if_neg z2, if_neg (by omega)]
            exact EvP.neg (by decide) (EvP.pos rfl (EvP.to (passes_spec hk (by omega)) (EvP.some rfl)))
      · dsimp only
        have e4 : Go.bits .or .i64 (shlI .i64 c0 5) (lowF c4 (server ++ nonce) spare) = c0 * 32 + lowF c4 (server ++ nonce) spare := by
          generalize lowF c4 (server ++ nonce) spare = y at hlow
          obtain ⟨a, rfl⟩ := Int.eq_ofNat_of_zero_le g2.1.1
          obtain ⟨b, rfl⟩ := Int.eq_ofNat_of_zero_le hlow.1
          exact or_tab ⟨a, by omega⟩ ⟨b, by omega⟩
        rw [e4]
        refine EvP.to (fixed_ok _ 1 (by decide)) (EvP.chk1 (by (try dsimp only); rw [be_size]; omega) (EvP.some rfl))
theorem first_byte {n : Int} (h : 0 ≤ n ∧ n ≤ 255) (t : ByteArray) : (bytesL (be 1 n ++ t)).getD 0 0 = n := by
  rw [bytesL_append, bytesL_be, BE_one]
  show n % 256 = n
  omega
theorem Decode_ok {c0 c1 c2 : Int} {c3 : ByteArray} {c4 : Bool} {server nonce : ByteArray} {spare : Int} (h : EOk c0 c1 c2 c3 server nonce spare) (more : ByteArray) (hm : more.size ≤ 100) :
    EvP (fun N => impl_DecodeId N c0 c1 c2 c3 c4 (encF c0 c3 c4 server nonce spare ++ more)) (· = ((server, (nonce, (true, ()))), ())) := by
  obtain ⟨g, e1, e2, e3⟩ := h
  have g2 := g
  unfold GC at g2
  have hsz : (server ++ nonce).size = server.size + nonce.size := ByteArray.size_append
  have hbz := bodyF_size c3 (server ++ nonce)
  have hlow : 0 ≤ lowF c4 (server ++ nonce) spare ∧ lowF c4 (server ++ nonce) spare ≤ 31 := by unfold lowF; split <;> omega
  have hez : (encF c0 c3 c4 server nonce spare).size = 1 + (server ++ nonce).size := by rw [encF, ByteArray.size_append, be_size, hbz]
  have htz : (encF c0 c3 c4 server nonce spare ++ more).size = 1 + (server ++ nonce).size + more.size := by rw [ByteArray.size_append, hez]
  have hfb : (bytesL (encF c0 c3 c4 server nonce spare ++ more)).getD 0 0 = c0 * 32 + lowF c4 (server ++ nonce) spare := by
    rw [encF, app_assoc]; exact first_byte (by omega) _
  have hbody : (encF c0 c3 c4 server nonce spare ++ more).extract 1 (1 + (server ++ nonce).size) = bodyF c3 (server ++ nonce) := by
    rw [extract_app_left (by omega), encF]; exact extract_app_two (be_size _ _).symm (by rw [be_size, hbz])
  generalize encF c0 c3 c4 server nonce spare ++ more = t at htz hfb hbody
  refine EvP.of (fun N => impl_DecodeId.eq N _ _ _ _ _ _) ?_
  rw [i64w (n := c1 + c2) (by omega) (by omega), i64w (n := 1 + (c1 + c2)) (by omega) (by omega), hfb, show Int.toNat (1 + (c1 + c2)) = 1 + (server ++ nonce).size by omega, hbody]
  refine EvP.to (a := (((), (false, ())), ((c0, (c1, (c2, (c3, (c4, ()))))), ()))) ?_ (EvP.no rfl (EvP.chk2 (by omega) (by omega) (EvP.to (a := (((), (server ++ nonce, ())), ((c0, (c1, (c2, (c3, (c4, ()))))), ()))) ?_ ?_)))
  · refine EvP.to (Good_impl c0 c1 c2 c3 c4 (by omega) (by omega)) (EvP.nneg g (EvP.neg (by omega) (EvP.chk1 (by omega) (EvP.some ?_))))
    rw [i64w (n := c0 * 32 + lowF c4 (server ++ nonce) spare) (by omega) (by omega), Int.tdiv_eq_ediv_of_nonneg (by omega), i64w (by omega) (by omega), decide_eq_true (show (c0 * 32 + lowF c4 (server ++ nonce) spare) / 32 = c0 by omega)]
    rfl
  · refine EvP.to (kind_ok c0 c1 c2 c3 c4 (by omega) (by omega)) ?_
    dsimp only
    have hB := bodyB_F (c3 := c3) (body := server ++ nonce) (by omega)
    unfold bodyB at hB
    rw [bodyF_size] at hB
    generalize bodyF c3 (server ++ nonce) = b at hB hbz
    by_cases z : c3.size = 0
    · rw [if_pos z] at hB
      rw [if_pos z, hB]
      exact EvP.neg (by decide) (EvP.neg (by decide) (EvP.some rfl))
    · rw [if_neg z] at hB
      rw [if_neg z]
      have hk : c3.size = 16 := by omega
      by_cases z2 : c1 + c2 = 16
      · rw [if_pos (by omega)] at hB
        rw [if_pos z2]
        refine EvP.pos rfl (EvP.andK (cipherOf_ok hk) ?_)
        rintro r ⟨hb2, hr⟩
        rw [hr]
        have := decrypt_ok (KW_by c3) hb2 (s := b) (by omega)
        refine EvP.to this (EvP.some ?_)
        dsimp only
        rw [show strL (L 16 (decN usb (KW c3) 10 (byteAt b))) = aesBack c3 b from rfl, hB]
      · rw [if_neg (by omega)] at hB
        rw [if_neg z2]
        refine EvP.neg (by decide) (EvP.pos rfl (EvP.to (fourB_impl hk (by omega)) (EvP.some ?_)))
        dsimp only
        rw [hB]
  · dsimp only
    refine EvP.chk2 (by omega) (by omega) (EvP.chk3 (by omega) (by omega) (by omega) (EvP.some ?_))
    rw [show Int.toNat c1 = server.size by omega, Int.toNat_natCast, extract_app_one rfl, extract_app_two rfl hsz]
theorem FnIds (a0 : List Int) (h0 : ∀ n ∈ a0, 0 ≤ n ∧ n ≤ 255) (s0 : a0.length ≤ 140737488351232) : ∃ N, laws_FnIds N a0 = some ((true, ()), ()) := by
  refine EvP.fin (EvP.of (fun k => laws_FnIds.eq k _) (EvP.ite (fun _ => EvP.some rfl) (fun _ => EvP.andK (spec_DrawEncodeId_s h0) ?_)))
  rintro ⟨⟨⟨c0, c1, c2, c3, c4, ⟨⟩⟩, server, nonce, spare, ⟨⟩⟩, ⟨⟩⟩ ⟨b1, b2, b3, b4, b5, b6, -⟩
  dsimp only at b3 b4 b5 b6
  refine EvP.to (Encode_impl c0 c1 c2 c3 c4 server nonce spare (by omega) (by omega)) (EvP.to (Encode_spec c0 c1 c2 c3 c4 server nonce spare (by omega) (by omega)) ?_)
  refine EvP.to (a := (((), (false, ())), ((c0, (c1, (c2, (c3, (c4, ()))))), ()))) (EvP.no (by simp) (EvP.some (by simp))) (EvP.no rfl ?_)
  by_cases h : EOk c0 c1 c2 c3 server nonce spare
  · rw [show encR c0 c1 c2 c3 c4 server nonce spare = _ from if_pos h]
    have hd := Decode_ok (c4 := c4) h ⟨#[]⟩ (by decide)
    rw [app_nil] at hd
    have hd2 := Decode_ok (c4 := c4) h ⟨#[98, 101, 104, 105, 110, 100]⟩ (by decide)
    obtain ⟨g, e1, e2, e3⟩ := h
    have g2 := g
    unfold GC at g2
    have hsz : (server ++ nonce).size = server.size + nonce.size := ByteArray.size_append
    have hbz := bodyF_size c3 (server ++ nonce)
    have hlow : 0 ≤ lowF c4 (server ++ nonce) spare ∧ lowF c4 (server ++ nonce) spare ≤ 31 := by unfold lowF; split <;> omega
    have hez : (encF c0 c3 c4 server nonce spare).size = 1 + (server ++ nonce).size := by rw [encF, ByteArray.size_append, be_size, hbz]
    refine EvP.no rfl (EvP.to hd (EvP.chk1 (by (try dsimp only); omega) (EvP.to hd2 ?_)))
    refine EvP.yes rfl (EvP.yes rfl (EvP.pos rfl (EvP.pos rfl (EvP.pos rfl (EvP.pos rfl (EvP.pos ?_ (EvP.chk1 (by (try dsimp only); omega) (EvP.some ?_))))))))
    · dsimp only
      rw [i64w (n := 1 + c1) (by omega) (by omega), i64w (n := 1 + c1 + c2) (by omega) (by omega)]
      omega
    · dsimp only
      rw [encF, first_byte (by omega), i64w (by omega) (by omega), show (5 : Int) = ((5 : Nat) : Int) from rfl, shrI_pow (by decide), decide_eq_true (show (c0 * 32 + lowF c4 (server ++ nonce) spare) / 2 ^ 5 = c0 by simp only [Int.reducePow]; omega)]
  · rw [show encR c0 c1 c2 c3 c4 server nonce spare = _ from if_neg h]
    exact EvP.yes rfl (EvP.some rfl)
end Go.Proofs.Ytknoemdkfhkkhaa.Pure
