/- Weights, copies and comparisons of systems, terms and sessions, as the laws make them. No conditions. -/
import Derived.Test.YticcekapikfhaaaGi
import Derived.Test.YticcekapikfhaaaGe
namespace Go.Proofs.Yticcekapikfhaaa
open Go Go.TL
set_option linter.unusedSimpArgs false
set_option linter.unusedVariables false
set_option maxRecDepth 20000
set_option maxHeartbeats 4000000

mutual
def GTerm.raw : GTerm → Prop
  | .mk op n _ ty _ ks => I64 op ∧ I64 n ∧ (ty.length ≤ 9223372036854775807 ∧ ∀ c ∈ ty, I64 c) ∧ ks.length ≤ 9223372036854775807 ∧ raws ks
def raws : List GTerm → Prop
  | [] => True
  | k :: ks => k.raw ∧ raws ks
end
theorem raws_iff : ∀ {ks : List GTerm}, raws ks ↔ ∀ k ∈ ks, k.raw
  | [] => by simp [raws]
  | k :: ks => by simp [raws, raws_iff (ks := ks)]
mutual
def GTerm.w : GTerm → Nat
  | .mk _ _ _ ty _ ks => ty.length + (ks.length + tws ks)
def tws : List GTerm → Nat
  | [] => 0
  | k :: ks => k.w + tws ks
end
theorem tws_drop {ks : List GTerm} {i : Nat} (h : i < ks.length) : tws (ks.drop i) = ks[i].w + tws (ks.drop (i + 1)) := by
  rw [List.drop_eq_getElem_cons h, tws]
mutual
theorem wf_of : ∀ (t : GTerm), t.raw → t.w ≤ 1099511627776 → t.wf
  | .mk op n nl1 ty nl2 ks, h, hw => by
    simp only [GTerm.raw, GTerm.w, GTerm.wf] at *
    exact ⟨h.1, h.2.1, ⟨by omega, h.2.2.1.2⟩, by omega, wfs_of ks h.2.2.2.2 (by omega)⟩
theorem wfs_of : ∀ (ks : List GTerm), raws ks → tws ks ≤ 1099511627776 → wfs ks
  | [], _, _ => by simp [wfs]
  | k :: ks, h, hw => by
    simp only [raws, tws, wfs] at *
    exact ⟨wf_of k h.1 (by omega), wfs_of ks h.2 (by omega)⟩
end
mutual
def GTerm.norm : GTerm → GTerm
  | .mk op n _ ty _ ks => .mk op n false ty false (norms ks)
def norms : List GTerm → List GTerm
  | [] => []
  | k :: ks => k.norm :: norms ks
end
mutual
/-- a copy's cells, owned -/
def GTerm.own : GTerm → List LV
  | .mk op n _ ty _ ks => [N op, N n, OU true false ty, .sl true false 4 (owns ks)]
def owns : List GTerm → List (List LV)
  | [] => []
  | k :: ks => k.own :: owns ks
end
theorem owns_eq : ∀ ks : List GTerm, owns ks = ks.map GTerm.own
  | [] => by simp [owns]
  | k :: ks => by simp [owns, owns_eq ks]
mutual
theorem share_ownT : ∀ t : GTerm, shareAll t.own = t.norm.cells
  | .mk op n nl1 ty nl2 ks => by
    simp only [GTerm.own, GTerm.norm, GTerm.cells, shareAll, share, share_owns ks]
    congr 3
    simp
theorem share_owns : ∀ ks : List GTerm, shareRow (owns ks) = rowsOf (norms ks)
  | [] => by simp [owns, norms, rowsOf, shareRow]
  | k :: ks => by simp only [owns, norms, rowsOf, shareRow, share_ownT k, share_owns ks]
end
attribute [simp] share_ownT share_owns
@[simp] theorem own_length (t : GTerm) : t.own.length = 4 := by cases t; simp [GTerm.own]
@[simp] theorem take_own (t : GTerm) : t.own.take 4 = t.own := List.take_of_length_le (by simp)
@[simp] theorem alive_own (t : GTerm) : aliveAll t.own = true := by cases t; simp [GTerm.own]
mutual
theorem low_ownT (k : Nat) : ∀ t : GTerm, LowAll k t.own
  | .mk op n nl1 ty nl2 ks => by
    have := low_owns k ks
    simp [GTerm.own, this]
theorem low_owns (k : Nat) : ∀ ks : List GTerm, LowRow k (owns ks)
  | [] => by simp [owns]
  | t :: ks => by simp [owns, low_ownT k t, low_owns k ks]
end
attribute [simp] low_ownT low_owns
mutual
/-- alike but for nil -/
def GTerm.same : GTerm → GTerm → Bool
  | .mk op n _ ty _ ks, .mk op' n' _ ty' _ ks' => eqB op op' && (eqB n n' && ((ty == ty') && sames ks ks'))
def sames : List GTerm → List GTerm → Bool
  | [], [] => true
  | a :: a', b :: b' => a.same b && sames a' b'
  | _, _ => false
end
theorem sames_len : ∀ {a b : List GTerm}, a.length ≠ b.length → sames a b = false
  | [], [], h => by simp at h
  | [], _ :: _, _ => by simp [sames]
  | _ :: _, [], _ => by simp [sames]
  | a :: a', b :: b', h => by simp only [sames, sames_len (a := a') (b := b') (by simpa using h), Bool.and_false]
mutual
theorem same_refl : ∀ a : GTerm, a.same a = true
  | .mk op n nl1 ty nl2 ks => by simp [GTerm.same, sames_refl ks]
theorem sames_refl : ∀ a : List GTerm, sames a a = true
  | [] => by simp [sames]
  | a :: a' => by simp [sames, same_refl a, sames_refl a']
end
mutual
theorem norm_wf : ∀ t : GTerm, t.wf → t.norm.wf
  | .mk op n nl1 ty nl2 ks, h => by
    simp only [GTerm.wf, GTerm.norm] at *
    exact ⟨h.1, h.2.1, h.2.2.1, by rw [norms_length]; exact h.2.2.2.1, norms_wf ks h.2.2.2.2⟩
theorem norms_wf : ∀ ks : List GTerm, wfs ks → wfs (norms ks)
  | [], _ => by simp [norms, wfs]
  | k :: ks, h => by
    simp only [wfs, norms] at *
    exact ⟨norm_wf k h.1, norms_wf ks h.2⟩
theorem norms_length : ∀ ks : List GTerm, (norms ks).length = ks.length
  | [] => by simp [norms]
  | k :: ks => by simp [norms, norms_length ks]
end

end Go.Proofs.Yticcekapikfhaaa
