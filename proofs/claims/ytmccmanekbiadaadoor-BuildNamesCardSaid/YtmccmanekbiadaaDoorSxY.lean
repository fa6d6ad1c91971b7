/- The symbolic walk, part Y: bytes to a string. -/
import Derived.Test.YtmccmanekbiadaaDoorSxX
import Derived.Laws.BytesString
set_option linter.unusedSimpArgs false
namespace Go.Sx
open Go

/-- The string of some bytes. -/
def strL (l : List Nat) : ByteArray := (l.map fun x : Nat => (x : Int)).foldl (fun r n => r.push (UInt8.ofNat n.toNat)) ByteArray.empty
theorem esc_b2s {G : Ctx} {src dst el : TypeId} {t : Nat} {r : Regs} {h : Heap} {n : Nat} {K : SV → Heap → Nat → Prop} (l : List Nat) {k row d m : Nat} {f : Nat → List Value} {e : Ent}
    (hs : G.P.underlying src = some (.slice el)) (h8 : G.P.underlying el = some (.int .u8)) (hd : G.P.underlying dst = some .string)
    (hv : rget r t = some (.o (.l (.s k 1 row l.length d)))) (hk : hget h k = some e) (he : e = .ar 1 m f ∨ e = .ro 1 m f) (hm : row + l.length ≤ m)
    (hf : ∀ i, i < l.length → f (nadd row i) = [.int .u8 ((l.getD i 0 : Nat) : Int)])
    (hK : K (.o (.l (.v (.string (strL l))))) [] n) : EscP G (.convert src dst (.tmp t)) r h n K := by
  rw [EscP_eq]
  intro G' hP o ρ φ a w ho g hr
  rw [← hP] at hs h8 hd
  refine .of_runs (runs_pure g (x := .o (.l (.v (.string (strL l))))) trivial hK ?_)
  obtain ⟨h1, h2⟩ := oget_eval hr (X := .tmp t) (x := .r t) rfl (v := .l (.s k 1 row l.length d)) (by simp only [oget, hv])
  obtain ⟨h3, _⟩ := rows_form g hk he h2 hm
  have hx : a.eval (.tmp t) = (LV.s k 1 row l.length d).at ρ := h1
  rcases h3 with ⟨h3, h4⟩ | ⟨ad, c, h3, h4⟩
  · have hl : l = [] := List.eq_nil_of_length_eq_zero h4
    subst hl
    simp only [execOp, ho, hx, h3]
    rw [Sem.run_bind, run_convert_bytes_string w src dst el none 0 0 hs h8 hd]
    rfl
  · simp only [execOp, ho, hx, h3]
    have hld : (loadCells ad l.length).run G'.P w = .ok ((l.map fun x : Nat => (x : Int)).map (Value.int .u8)).toArray w := by
      have := run_loadCells_list (P := G'.P) (w := w) ad ((l.map fun x : Nat => (x : Int)).map (Value.int .u8)) (fun j v hj => ?_)
      · simpa using this
      · have hjl : j < l.length := by
          have := (List.getElem?_eq_some_iff.1 hj).1
          simpa using this
        have h5 := h4 j hjl 0 (by omega)
        rw [hf j hjl] at h5
        simp only [Nat.mul_one, Nat.add_zero] at h5
        rw [h5, ← hj]
        simp [hjl]
    rw [Sem.run_bind, run_convert_bytes_string w src dst el (some ad) l.length c hs h8 hd, run_bytesToString w ad l.length c _ hld]
    rfl
end Go.Sx
