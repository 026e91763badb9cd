/-
  sync.Once over a page: the first call builds it, later ones do nothing. No condition.
-/
import Derived.Test.YthdoighlfoinaaaDoorPage5
import Derived.Test.YthdoighlfoinaaaDoorPage1
namespace Go.Proofs.YthdoighlfoinaaaDoor
open Go.RowKit Go.Maps
set_option linter.unusedVariables false
set_option linter.unusedSimpArgs false

/-- behind the first call -/
def Done (b : Nat) (k dn st : Int) (w w' : World) : Prop := ∃ m, w.heap.size ≤ m ∧ PCells w' b k dn st (signN k) (some m) ∧ MapAt w' m (mapD (signN k) 256) 256 ∧ Near b w w'
theorem MapAt.near {w w' : World} {m n b : Nat} {D : DataW Unit} (h : MapAt w m D n) (hk : Near b w w') (hne : m ≠ b) : MapAt w' m D n := h.keep hk hne
set_option maxRecDepth 100000 in
set_option maxHeartbeats 1600000 in
theorem slow_is (b : Nat) (k : Int) (hk : isPage k = true) (w : World) (h : PCells w b k 0 0 (fun _ => 0) none) :
    Calls Tryd.prog 39 #[.pointer (some ⟨b, 1, none⟩), .func (.func 37) #[.pointer (some ⟨b, 0, none⟩)] #[]] w fun e w' => e = .returned (.tuple #[]) ∧ Done b k 1 0 w w' := by
  have h1 := h.setSt 1
  have hl := run_call_load (P := Tryd.prog) Tryd.func41 (by kernel_rfl) (by kernel_rfl) (by kernel_rfl) .u32 (by kernel_rfl) (w := w.setCell ⟨b, 2, none⟩ (.int .i32 1)) (a := ⟨b, 1, none⟩) (x := 0) h1.dn
  have hnot : ∀ (x : Bool) (w : World), (Op.unary .not (.bool x)).run Tryd.prog w = .ok (.bool (!x)) w := fun _ _ => rfl
  have hst := h.st
  have hfz := h.fz 2 (by omega)
  have hlt := h.lt
  go_enter_defers Tryd.func39, Tryd.ntmps39
  go_wp2_with (first | (go_at_call 42; refine (lock_free ⟨b, 2, none⟩ _ hst hfz).mono ?_; rintro e w' ⟨rfl, rfl⟩))
  go_wp2_with (first | (go_at_call 37; refine (build_is b k hk _ h1).mono ?_; rintro e w2 ⟨rfl, m, hm, hp2, hmp2, hn2⟩) | (go_at_call 38; go_in))
  refine leaves_cons (f := 44) (args := #[.pointer (some ⟨b, 1, none⟩), .bool true]) (by simp) (by simp [go_sem]) ?_
  refine (store_deferred ⟨b, 1, none⟩ (.int .u32 0) .returning _ hp2.dn (hp2.fz 1 (by omega))).mono ?_
  rintro e u' w3 ⟨rfl, rfl, rfl⟩
  have hp3 := hp2.drew.setDn 1
  have hnm : m ≠ b := hmp2.ne_cell hp2.num
  have hmp3 : MapAt (w2.drew.setCell ⟨b, 1, none⟩ (.int .u32 1)) m (mapD (signN k) 256) 256 := hmp2.near ((Near.refl b w2).drew.setCell 1 _) hnm
  refine leaves_cons (f := 43) (args := #[.pointer (some ⟨b, 2, none⟩)]) (by simp [settle]) (by simp [go_sem]) ?_
  refine (unlock_deferred ⟨b, 2, none⟩ _ _ hp3.st (hp3.fz 2 (by omega))).mono ?_
  rintro e u' w4 ⟨rfl, rfl, rfl⟩
  have hp4 := hp3.setSt 0
  have hn4 : Near b w ((w2.drew.setCell ⟨b, 1, none⟩ (.int .u32 1)).setCell ⟨b, 2, none⟩ (.int .i32 0)) := ((((Near.refl b w).setCell 2 _).trans hn2).drew.setCell 1 _).setCell 2 _
  have hmp4 : MapAt ((w2.drew.setCell ⟨b, 1, none⟩ (.int .u32 1)).setCell ⟨b, 2, none⟩ (.int .i32 0)) m (mapD (signN k) 256) 256 := hmp3.near ((Near.refl b _).setCell 2 _) hnm
  have hm' : w.heap.size ≤ m := by simpa [World.setCell] using hm
  simp [Leaves, settle, results, Tryd.results39]
  exact ⟨m, hm', hp4, hmp4, hn4⟩
set_option maxRecDepth 100000 in
set_option maxHeartbeats 1600000 in
theorem do_first (b : Nat) (k : Int) (hk : isPage k = true) (w : World) (h : PCells w b k 0 0 (fun _ => 0) none) :
    Calls Tryd.prog 36 #[.pointer (some ⟨b, 1, none⟩), .func (.func 37) #[.pointer (some ⟨b, 0, none⟩)] #[]] w fun e w' => e = .returned (.tuple #[]) ∧ Done b k 1 0 w w' := by
  have hl := run_call_load (P := Tryd.prog) Tryd.func41 (by kernel_rfl) (by kernel_rfl) (by kernel_rfl) .u32 (by kernel_rfl) (w := w) (a := ⟨b, 1, none⟩) (x := 0) h.dn
  have hnot : ∀ (x : Bool) (w : World), (Op.unary .not (.bool x)).run Tryd.prog w = .ok (.bool (!x)) w := fun _ _ => rfl
  go_enter Tryd.func36, Tryd.ntmps36
  go_wp2_with (first | (go_at_call 39; refine (slow_is b k hk _ h).mono ?_; rintro e w' ⟨rfl, hd⟩) | (go_at_call 38; go_in))
  go_end0
  exact ⟨rfl, hd⟩
theorem do_done (a : Addr) (fv : Value) (w : World) (h0 : w.cell? a = some (.int .u32 1)) :
    Calls Tryd.prog 36 #[.pointer (some a), fv] w fun e w' => e = .returned (.tuple #[]) ∧ w = w' := by
  have hl := run_call_load (P := Tryd.prog) Tryd.func41 (by kernel_rfl) (by kernel_rfl) (by kernel_rfl) .u32 (by kernel_rfl) h0
  have hnot : ∀ (x : Bool) (w : World), (Op.unary .not (.bool x)).run Tryd.prog w = .ok (.bool (!x)) w := fun _ _ => rfl
  go_enter Tryd.func36, Tryd.ntmps36
  go_wp2
  go_end0
  exact ⟨rfl, rfl⟩
/-- a page with its signs -/
def Built (w : World) (b : Nat) (k : Int) : Prop := ∃ m, m ≠ b ∧ PCells w b k 1 0 (signN k) (some m) ∧ MapAt w m (mapD (signN k) 256) 256
theorem Built.pat {w : World} {b : Nat} {k : Int} (h : Built w b k) : PAt w b k := .inr h
set_option maxRecDepth 100000 in
theorem built_is (b : Nat) (k : Int) (hk : isPage k = true) (w : World) (h : PAt w b k) :
    Calls Tryd.prog 34 #[.pointer (some ⟨b, 0, none⟩)] w fun e w' => e = .returned (.pointer (some ⟨b, 0, none⟩)) ∧ Built w' b k ∧ Near b w w' := by
  have hmf : ∀ (fn : Fn) (first cap : Array Value) (w : World), (Instr.makeFunc fn first cap).run Tryd.prog w = .ok (.func fn first cap) w := fun _ _ _ _ => rfl
  rcases h with h | ⟨m, hm, h, hmp⟩
  · go_enter Tryd.func34, Tryd.ntmps34
    go_wp2_with (go_at_call 36; refine (do_first b k hk _ h).mono ?_; rintro e w' ⟨rfl, m, hm, hp, hmp, hn⟩)
    go_ret
    exact ⟨rfl, ⟨m, hmp.ne_cell hp.num, hp, hmp⟩, hn⟩
  · go_enter Tryd.func34, Tryd.ntmps34
    go_wp2_with (go_at_call 36; refine (do_done ⟨b, 1, none⟩ _ _ h.dn).mono ?_; rintro e w' ⟨rfl, rfl⟩)
    go_ret
    exact ⟨rfl, ⟨m, hm, h, hmp⟩, Near.refl b w⟩
end Go.Proofs.YthdoighlfoinaaaDoor
