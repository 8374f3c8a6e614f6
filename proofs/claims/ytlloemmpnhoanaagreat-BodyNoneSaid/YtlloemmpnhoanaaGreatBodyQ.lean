/-
  Reference 8's views; reference 10's maps; the law's own check that the program lives.
-/
import Derived.Test.YtlloemmpnhoanaaGreatBodyP
set_option linter.all false
set_option maxRecDepth 100000
set_option maxHeartbeats 1000000
namespace Go.Proofs.YtlloemmpnhoanaaGreat
open Go Go.Eng

/-- where reference 8's view has its words -/
def RefV (h : Heap) (p : Nat) (ws : List UInt64) : Prop := ∃ a n c, Heap.cell? h p 1 = some (.slice a n c) ∧ Sl h a n c ws
theorem RefV.on {h h' : Heap} {p : Nat} {ws : List UInt64} (R : RefV h p ws) (k : Keeps [] h h') : RefV h' p ws := by
  obtain ⟨a, n, c, h1, h2⟩ := R
  exact ⟨a, n, c, k.cell h1 (by simp), h2.keep k⟩

def rdR (ws : List UInt64) (i : Int) : UInt64 := if 0 ≤ i ∧ i < ws.length then ws[i.toNat]?.getD 0 else 0

/-- reference 10's map: nothing where a word is too great; else a map, and whether it may be -/
def refMap (ws : List UInt64) (c : Crd) : Option (List Int × Bool) :=
  if c.more < 0 then some (c.direct ++ List.replicate 16 (-1), true)
  else if (rdL (rdR ws) (1288 + 16 * c.more) 16).all (fun w => decide (w.toNat ≤ 96)) = true then some (c.direct ++ (rdL (rdR ws) (1288 + 16 * c.more) 16).map convW, (rdL (rdR ws) (1288 + 16 * c.more) 16).any fun w => decide (0 < w.toNat))
  else none

theorem one_append {h : Heap} {a : Option Addr} {len cap : Nat} {l : List Int} (O : Own h 3 1 a len cap (l.map fun x => .int .i64 x)) (hl : len = l.length) (hb : l.length ≤ 1000) {b : Nat} {x : Int} (o : h[b]? = some (.cells ⟨[.int .i64 x]⟩ 3 (0, 0))) {bs : List Nat} (hbs : ∀ b ∈ blkA a, b ∉ bs) {ty : TypeId} {K : Value → Heap → Prop}
    (H : ∀ a' cap' h', Own h' 3 1 a' (len + 1) cap' ((l ++ [x]).map fun x => .int .i64 x) → Keeps (blkA a) h h' → (∀ b ∈ blkA a', b ∈ blkA a ∨ h.size ≤ b) → K (.slice a' (len + 1) cap') h') :
    SemR Tryz.prog (Builtin.append_ #[61, 61] ty ⟨[.slice a len cap, .slice (some ⟨b, 0, none⟩) 1 1]⟩) bs h K := by
  refine append_own (e := 3) (sz := 1) (by_ := 8) (new := [.int .i64 x]) rfl rfl rfl rfl rfl rfl rfl O rfl (fun j hj => ?_) rfl (by omega) (by decide) hbs ?_
  · have hj0 : j = 0 := by simpa using hj
    subst hj0
    simp only [Heap.cell?, o]; rfl
  intro a' c' h' O' k' n'
  exact H a' c' h' (by rw [List.map_append]; exact O') k' n'

end Go.Proofs.YtlloemmpnhoanaaGreat
