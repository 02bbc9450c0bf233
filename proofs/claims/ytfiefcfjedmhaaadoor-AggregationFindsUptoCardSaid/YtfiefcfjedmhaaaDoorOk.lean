/- The tables are so. Printed by genok.py. -/
import Derived.Test.YtfiefcfjedmhaaaDoorTab
import Derived.Test.YtfiefcfjedmhaaaDoorAbsTop
import Derived.KernelRfl
namespace Go.Proofs.YtfiefcfjedmhaaaDoor
open Go Go.Abs
set_option linter.unusedVariables false
set_option maxRecDepth 100000
theorem ty1ok : TyFact Tryd.prog 1 ty1 := TyFact.of (by kernel_rfl) (by kernel_rfl) (by kernel_rfl) (by kernel_rfl) (by kernel_rfl) (by kernel_rfl) rfl (fun _ => rfl) Tryd.underlying1 rfl ⟨_, _, _, rfl⟩
theorem ty2ok : TyFact Tryd.prog 2 ty2 := TyFact.of (by kernel_rfl) (by kernel_rfl) (by kernel_rfl) (by kernel_rfl) (by kernel_rfl) (by kernel_rfl) rfl (fun _ => rfl) Tryd.underlying2 rfl trivial
theorem ty3ok : TyFact Tryd.prog 3 ty3 := TyFact.of (by kernel_rfl) (by kernel_rfl) (by kernel_rfl) (by kernel_rfl) (by kernel_rfl) (by kernel_rfl) rfl (fun _ => rfl) Tryd.underlying3 rfl trivial
theorem ty4ok : TyFact Tryd.prog 4 ty4 := TyFact.of (by kernel_rfl) (by kernel_rfl) (by kernel_rfl) (by kernel_rfl) (by kernel_rfl) (by kernel_rfl) rfl (fun _ => rfl) Tryd.underlying4 rfl rfl
theorem ty5ok : TyFact Tryd.prog 5 ty5 := TyFact.of (by kernel_rfl) (by kernel_rfl) (by kernel_rfl) (by kernel_rfl) (by kernel_rfl) (by kernel_rfl) rfl (fun _ => rfl) Tryd.underlying5 rfl trivial
theorem ty9ok : TyFact Tryd.prog 9 ty9 := TyFact.of (by kernel_rfl) (by kernel_rfl) (by kernel_rfl) (by kernel_rfl) (by kernel_rfl) (by kernel_rfl) rfl (fun _ => rfl) Tryd.underlying9 rfl rfl
theorem ty22ok : TyFact Tryd.prog 22 ty22 := TyFact.of (by kernel_rfl) (by kernel_rfl) (by kernel_rfl) (by kernel_rfl) (by kernel_rfl) (by kernel_rfl) rfl (fun _ => rfl) Tryd.underlying22 rfl rfl
theorem ty23ok : TyFact Tryd.prog 23 ty23 := TyFact.of (by kernel_rfl) (by kernel_rfl) (by kernel_rfl) (by kernel_rfl) (by kernel_rfl) (by kernel_rfl) rfl (fun _ => rfl) Tryd.underlying23 rfl rfl
theorem ty25ok : TyFact Tryd.prog 25 ty25 := TyFact.of (by kernel_rfl) (by kernel_rfl) (by kernel_rfl) (by kernel_rfl) (by kernel_rfl) (by kernel_rfl) rfl (fun h => by cases h) Tryd.underlying25 rfl ⟨_, rfl, by kernel_rfl, by decide⟩
theorem ty30ok : TyFact Tryd.prog 30 ty30 := TyFact.of (by kernel_rfl) (by kernel_rfl) (by kernel_rfl) (by kernel_rfl) (by kernel_rfl) (by kernel_rfl) rfl (fun _ => rfl) Tryd.underlying30 rfl ⟨_, _, _, rfl⟩
theorem ty31ok : TyFact Tryd.prog 31 ty31 := TyFact.of (by kernel_rfl) (by kernel_rfl) (by kernel_rfl) (by kernel_rfl) (by kernel_rfl) (by kernel_rfl) rfl (fun _ => rfl) Tryd.underlying31 rfl rfl
theorem ty37ok : TyFact Tryd.prog 37 ty37 := TyFact.of (by kernel_rfl) (by kernel_rfl) (by kernel_rfl) (by kernel_rfl) (by kernel_rfl) (by kernel_rfl) rfl (fun _ => rfl) Tryd.underlying37 rfl ⟨_, _, _, rfl⟩
theorem ty45ok : TyFact Tryd.prog 45 ty45 := TyFact.of (by kernel_rfl) (by kernel_rfl) (by kernel_rfl) (by kernel_rfl) (by kernel_rfl) (by kernel_rfl) rfl (fun _ => rfl) Tryd.underlying45 rfl ⟨_, _, _, rfl⟩
theorem ty51ok : TyFact Tryd.prog 51 ty51 := TyFact.of (by kernel_rfl) (by kernel_rfl) (by kernel_rfl) (by kernel_rfl) (by kernel_rfl) (by kernel_rfl) rfl (fun _ => rfl) Tryd.underlying51 rfl ⟨_, _, _, rfl⟩
theorem ty55ok : TyFact Tryd.prog 55 ty55 := TyFact.of (by kernel_rfl) (by kernel_rfl) (by kernel_rfl) (by kernel_rfl) (by kernel_rfl) (by kernel_rfl) rfl (fun _ => rfl) Tryd.underlying55 rfl rfl
theorem ty61ok : TyFact Tryd.prog 61 ty61 := TyFact.of (by kernel_rfl) (by kernel_rfl) (by kernel_rfl) (by kernel_rfl) (by kernel_rfl) (by kernel_rfl) rfl (fun _ => rfl) Tryd.underlying61 rfl ⟨_, rfl⟩
theorem ty62ok : TyFact Tryd.prog 62 ty62 := TyFact.of (by kernel_rfl) (by kernel_rfl) (by kernel_rfl) (by kernel_rfl) (by kernel_rfl) (by kernel_rfl) rfl (fun _ => rfl) Tryd.underlying62 rfl rfl
theorem ty64ok : TyFact Tryd.prog 64 ty64 := TyFact.of (by kernel_rfl) (by kernel_rfl) (by kernel_rfl) (by kernel_rfl) (by kernel_rfl) (by kernel_rfl) rfl (fun h => by cases h) Tryd.underlying64 rfl ⟨_, rfl, by kernel_rfl, by decide⟩
theorem ty72ok : TyFact Tryd.prog 72 ty72 := TyFact.of (by kernel_rfl) (by kernel_rfl) (by kernel_rfl) (by kernel_rfl) (by kernel_rfl) (by kernel_rfl) rfl (fun _ => rfl) Tryd.underlying72 rfl ⟨_, rfl⟩
theorem ty73ok : TyFact Tryd.prog 73 ty73 := TyFact.of (by kernel_rfl) (by kernel_rfl) (by kernel_rfl) (by kernel_rfl) (by kernel_rfl) (by kernel_rfl) rfl (fun h => by cases h) Tryd.underlying73 rfl trivial
theorem ty74ok : TyFact Tryd.prog 74 ty74 := TyFact.of (by kernel_rfl) (by kernel_rfl) (by kernel_rfl) (by kernel_rfl) (by kernel_rfl) (by kernel_rfl) rfl (fun _ => rfl) Tryd.underlying74 rfl trivial
theorem ty79ok : TyFact Tryd.prog 79 ty79 := TyFact.of (by kernel_rfl) (by kernel_rfl) (by kernel_rfl) (by kernel_rfl) (by kernel_rfl) (by kernel_rfl) rfl (fun _ => rfl) Tryd.underlying79 rfl trivial
theorem ty84ok : TyFact Tryd.prog 84 ty84 := TyFact.of (by kernel_rfl) (by kernel_rfl) (by kernel_rfl) (by kernel_rfl) (by kernel_rfl) (by kernel_rfl) rfl (fun h => by cases h) Tryd.underlying84 rfl trivial
theorem ty85ok : TyFact Tryd.prog 85 ty85 := TyFact.of (by kernel_rfl) (by kernel_rfl) (by kernel_rfl) (by kernel_rfl) (by kernel_rfl) (by kernel_rfl) rfl (fun _ => rfl) Tryd.underlying85 rfl trivial
theorem ty86ok : TyFact Tryd.prog 86 ty86 := TyFact.of (by kernel_rfl) (by kernel_rfl) (by kernel_rfl) (by kernel_rfl) (by kernel_rfl) (by kernel_rfl) rfl (fun h => by cases h) Tryd.underlying86 rfl trivial
theorem ty88ok : TyFact Tryd.prog 88 ty88 := TyFact.of (by kernel_rfl) (by kernel_rfl) (by kernel_rfl) (by kernel_rfl) (by kernel_rfl) (by kernel_rfl) rfl (fun _ => rfl) Tryd.underlying88 rfl trivial
theorem ty91ok : TyFact Tryd.prog 91 ty91 := TyFact.of (by kernel_rfl) (by kernel_rfl) (by kernel_rfl) (by kernel_rfl) (by kernel_rfl) (by kernel_rfl) rfl (fun h => by cases h) Tryd.underlying91 rfl trivial
theorem ty92ok : TyFact Tryd.prog 92 ty92 := TyFact.of (by kernel_rfl) (by kernel_rfl) (by kernel_rfl) (by kernel_rfl) (by kernel_rfl) (by kernel_rfl) rfl (fun h => by cases h) Tryd.underlying92 rfl trivial
theorem tyok : TyOk Tryd.prog tT := by
  intro t ti h
  unfold tT at h
  split at h
  · cases h; exact ty1ok
  · cases h; exact ty2ok
  · cases h; exact ty3ok
  · cases h; exact ty4ok
  · cases h; exact ty5ok
  · cases h; exact ty9ok
  · cases h; exact ty22ok
  · cases h; exact ty23ok
  · cases h; exact ty25ok
  · cases h; exact ty30ok
  · cases h; exact ty31ok
  · cases h; exact ty37ok
  · cases h; exact ty45ok
  · cases h; exact ty51ok
  · cases h; exact ty55ok
  · cases h; exact ty61ok
  · cases h; exact ty62ok
  · cases h; exact ty64ok
  · cases h; exact ty72ok
  · cases h; exact ty73ok
  · cases h; exact ty74ok
  · cases h; exact ty79ok
  · cases h; exact ty84ok
  · cases h; exact ty85ok
  · cases h; exact ty86ok
  · cases h; exact ty88ok
  · cases h; exact ty91ok
  · cases h; exact ty92ok
  · cases h
theorem fok : ∀ f F, fF f = some F → Tryd.prog.funcs[f]? = some F ∧ (F.name == "runtime.NumGoroutine") = false := by
  intro f F h
  unfold fF at h
  split at h
  · cases h; exact ⟨Tryd.func3, by kernel_rfl⟩
  · cases h; exact ⟨Tryd.func4, by kernel_rfl⟩
  · cases h; exact ⟨Tryd.func5, by kernel_rfl⟩
  · cases h; exact ⟨Tryd.func6, by kernel_rfl⟩
  · cases h; exact ⟨Tryd.func7, by kernel_rfl⟩
  · cases h; exact ⟨Tryd.func8, by kernel_rfl⟩
  · cases h; exact ⟨Tryd.func9, by kernel_rfl⟩
  · cases h; exact ⟨Tryd.func10, by kernel_rfl⟩
  · cases h; exact ⟨Tryd.func11, by kernel_rfl⟩
  · cases h; exact ⟨Tryd.func12, by kernel_rfl⟩
  · cases h; exact ⟨Tryd.func13, by kernel_rfl⟩
  · cases h; exact ⟨Tryd.func14, by kernel_rfl⟩
  · cases h; exact ⟨Tryd.func15, by kernel_rfl⟩
  · cases h; exact ⟨Tryd.func16, by kernel_rfl⟩
  · cases h; exact ⟨Tryd.func17, by kernel_rfl⟩
  · cases h; exact ⟨Tryd.func18, by kernel_rfl⟩
  · cases h; exact ⟨Tryd.func19, by kernel_rfl⟩
  · cases h; exact ⟨Tryd.func20, by kernel_rfl⟩
  · cases h; exact ⟨Tryd.func21, by kernel_rfl⟩
  · cases h; exact ⟨Tryd.func22, by kernel_rfl⟩
  · cases h; exact ⟨Tryd.func23, by kernel_rfl⟩
  · cases h; exact ⟨Tryd.func24, by kernel_rfl⟩
  · cases h; exact ⟨Tryd.func25, by kernel_rfl⟩
  · cases h; exact ⟨Tryd.func26, by kernel_rfl⟩
  · cases h; exact ⟨Tryd.func27, by kernel_rfl⟩
  · cases h; exact ⟨Tryd.func28, by kernel_rfl⟩
  · cases h; exact ⟨Tryd.func29, by kernel_rfl⟩
  · cases h; exact ⟨Tryd.func30, by kernel_rfl⟩
  · cases h; exact ⟨Tryd.func31, by kernel_rfl⟩
  · cases h; exact ⟨Tryd.func32, by kernel_rfl⟩
  · cases h; exact ⟨Tryd.func33, by kernel_rfl⟩
  · cases h; exact ⟨Tryd.func34, by kernel_rfl⟩
  · cases h; exact ⟨Tryd.func35, by kernel_rfl⟩
  · cases h; exact ⟨Tryd.func36, by kernel_rfl⟩
  · cases h; exact ⟨Tryd.func37, by kernel_rfl⟩
  · cases h; exact ⟨Tryd.func38, by kernel_rfl⟩
  · cases h; exact ⟨Tryd.func39, by kernel_rfl⟩
  · cases h; exact ⟨Tryd.func40, by kernel_rfl⟩
  · cases h; exact ⟨Tryd.func43, by kernel_rfl⟩
  · cases h; exact ⟨Tryd.func44, by kernel_rfl⟩
  · cases h; exact ⟨Tryd.func45, by kernel_rfl⟩
  · cases h; exact ⟨Tryd.func46, by kernel_rfl⟩
  · cases h; exact ⟨Tryd.func47, by kernel_rfl⟩
  · cases h; exact ⟨Tryd.func48, by kernel_rfl⟩
  · cases h; exact ⟨Tryd.func49, by kernel_rfl⟩
  · cases h; exact ⟨Tryd.func64, by kernel_rfl⟩
  · cases h; exact ⟨Tryd.func67, by kernel_rfl⟩
  · cases h; exact ⟨Tryd.func68, by kernel_rfl⟩
  · cases h; exact ⟨Tryd.func69, by kernel_rfl⟩
  · cases h
theorem cok3 : (match Tryd.f3.body with
    | some c => codeOk (hH 3) c
    | none => true) = true := by kernel_rfl
theorem cok4 : (match Tryd.f4.body with
    | some c => codeOk (hH 4) c
    | none => true) = true := by kernel_rfl
theorem cok5 : (match Tryd.f5.body with
    | some c => codeOk (hH 5) c
    | none => true) = true := by kernel_rfl
theorem cok6 : (match Tryd.f6.body with
    | some c => codeOk (hH 6) c
    | none => true) = true := by kernel_rfl
theorem cok7 : (match Tryd.f7.body with
    | some c => codeOk (hH 7) c
    | none => true) = true := by kernel_rfl
theorem cok8 : (match Tryd.f8.body with
    | some c => codeOk (hH 8) c
    | none => true) = true := by kernel_rfl
theorem cok9 : (match Tryd.f9.body with
    | some c => codeOk (hH 9) c
    | none => true) = true := by kernel_rfl
theorem cok10 : (match Tryd.f10.body with
    | some c => codeOk (hH 10) c
    | none => true) = true := by kernel_rfl
theorem cok11 : (match Tryd.f11.body with
    | some c => codeOk (hH 11) c
    | none => true) = true := by kernel_rfl
theorem cok12 : (match Tryd.f12.body with
    | some c => codeOk (hH 12) c
    | none => true) = true := by kernel_rfl
theorem cok13 : (match Tryd.f13.body with
    | some c => codeOk (hH 13) c
    | none => true) = true := by kernel_rfl
theorem cok14 : (match Tryd.f14.body with
    | some c => codeOk (hH 14) c
    | none => true) = true := by kernel_rfl
theorem cok15 : (match Tryd.f15.body with
    | some c => codeOk (hH 15) c
    | none => true) = true := by kernel_rfl
theorem cok16 : (match Tryd.f16.body with
    | some c => codeOk (hH 16) c
    | none => true) = true := by kernel_rfl
theorem cok17 : (match Tryd.f17.body with
    | some c => codeOk (hH 17) c
    | none => true) = true := by kernel_rfl
theorem cok18 : (match Tryd.f18.body with
    | some c => codeOk (hH 18) c
    | none => true) = true := by kernel_rfl
theorem cok19 : (match Tryd.f19.body with
    | some c => codeOk (hH 19) c
    | none => true) = true := by kernel_rfl
theorem cok20 : (match Tryd.f20.body with
    | some c => codeOk (hH 20) c
    | none => true) = true := by kernel_rfl
theorem cok21 : (match Tryd.f21.body with
    | some c => codeOk (hH 21) c
    | none => true) = true := by kernel_rfl
theorem cok22 : (match Tryd.f22.body with
    | some c => codeOk (hH 22) c
    | none => true) = true := by kernel_rfl
theorem cok23 : (match Tryd.f23.body with
    | some c => codeOk (hH 23) c
    | none => true) = true := by kernel_rfl
theorem cok24 : (match Tryd.f24.body with
    | some c => codeOk (hH 24) c
    | none => true) = true := by kernel_rfl
theorem cok25 : (match Tryd.f25.body with
    | some c => codeOk (hH 25) c
    | none => true) = true := by kernel_rfl
theorem cok26 : (match Tryd.f26.body with
    | some c => codeOk (hH 26) c
    | none => true) = true := by kernel_rfl
theorem cok27 : (match Tryd.f27.body with
    | some c => codeOk (hH 27) c
    | none => true) = true := by kernel_rfl
theorem cok28 : (match Tryd.f28.body with
    | some c => codeOk (hH 28) c
    | none => true) = true := by kernel_rfl
theorem cok29 : (match Tryd.f29.body with
    | some c => codeOk (hH 29) c
    | none => true) = true := by kernel_rfl
theorem cok30 : (match Tryd.f30.body with
    | some c => codeOk (hH 30) c
    | none => true) = true := by kernel_rfl
theorem cok31 : (match Tryd.f31.body with
    | some c => codeOk (hH 31) c
    | none => true) = true := by kernel_rfl
theorem cok32 : (match Tryd.f32.body with
    | some c => codeOk (hH 32) c
    | none => true) = true := by kernel_rfl
theorem cok33 : (match Tryd.f33.body with
    | some c => codeOk (hH 33) c
    | none => true) = true := by kernel_rfl
theorem cok34 : (match Tryd.f34.body with
    | some c => codeOk (hH 34) c
    | none => true) = true := by kernel_rfl
theorem cok35 : (match Tryd.f35.body with
    | some c => codeOk (hH 35) c
    | none => true) = true := by kernel_rfl
theorem cok36 : (match Tryd.f36.body with
    | some c => codeOk (hH 36) c
    | none => true) = true := by kernel_rfl
theorem cok37 : (match Tryd.f37.body with
    | some c => codeOk (hH 37) c
    | none => true) = true := by kernel_rfl
theorem cok38 : (match Tryd.f38.body with
    | some c => codeOk (hH 38) c
    | none => true) = true := by kernel_rfl
theorem cok39 : (match Tryd.f39.body with
    | some c => codeOk (hH 39) c
    | none => true) = true := by kernel_rfl
theorem cok40 : (match Tryd.f40.body with
    | some c => codeOk (hH 40) c
    | none => true) = true := by kernel_rfl
theorem cok43 : (match Tryd.f43.body with
    | some c => codeOk (hH 43) c
    | none => true) = true := by kernel_rfl
theorem cok44 : (match Tryd.f44.body with
    | some c => codeOk (hH 44) c
    | none => true) = true := by kernel_rfl
theorem cok45 : (match Tryd.f45.body with
    | some c => codeOk (hH 45) c
    | none => true) = true := by kernel_rfl
theorem cok46 : (match Tryd.f46.body with
    | some c => codeOk (hH 46) c
    | none => true) = true := by kernel_rfl
theorem cok47 : (match Tryd.f47.body with
    | some c => codeOk (hH 47) c
    | none => true) = true := by kernel_rfl
theorem cok48 : (match Tryd.f48.body with
    | some c => codeOk (hH 48) c
    | none => true) = true := by kernel_rfl
theorem cok49 : (match Tryd.f49.body with
    | some c => codeOk (hH 49) c
    | none => true) = true := by kernel_rfl
theorem cok64 : (match Tryd.f64.body with
    | some c => codeOk (hH 64) c
    | none => true) = true := by kernel_rfl
theorem cok67 : (match Tryd.f67.body with
    | some c => codeOk (hH 67) c
    | none => true) = true := by kernel_rfl
theorem cok68 : (match Tryd.f68.body with
    | some c => codeOk (hH 68) c
    | none => true) = true := by kernel_rfl
theorem cok69 : (match Tryd.f69.body with
    | some c => codeOk (hH 69) c
    | none => true) = true := by kernel_rfl
theorem hok : ∀ f F code, fF f = some F → F.body = some code → codeOk (hH f) code = true := by
  intro f F code h hb
  unfold fF at h
  split at h
  · cases h; have := cok3; rw [hb] at this; exact this
  · cases h; have := cok4; rw [hb] at this; exact this
  · cases h; have := cok5; rw [hb] at this; exact this
  · cases h; have := cok6; rw [hb] at this; exact this
  · cases h; have := cok7; rw [hb] at this; exact this
  · cases h; have := cok8; rw [hb] at this; exact this
  · cases h; have := cok9; rw [hb] at this; exact this
  · cases h; have := cok10; rw [hb] at this; exact this
  · cases h; have := cok11; rw [hb] at this; exact this
  · cases h; have := cok12; rw [hb] at this; exact this
  · cases h; have := cok13; rw [hb] at this; exact this
  · cases h; have := cok14; rw [hb] at this; exact this
  · cases h; have := cok15; rw [hb] at this; exact this
  · cases h; have := cok16; rw [hb] at this; exact this
  · cases h; have := cok17; rw [hb] at this; exact this
  · cases h; have := cok18; rw [hb] at this; exact this
  · cases h; have := cok19; rw [hb] at this; exact this
  · cases h; have := cok20; rw [hb] at this; exact this
  · cases h; have := cok21; rw [hb] at this; exact this
  · cases h; have := cok22; rw [hb] at this; exact this
  · cases h; have := cok23; rw [hb] at this; exact this
  · cases h; have := cok24; rw [hb] at this; exact this
  · cases h; have := cok25; rw [hb] at this; exact this
  · cases h; have := cok26; rw [hb] at this; exact this
  · cases h; have := cok27; rw [hb] at this; exact this
  · cases h; have := cok28; rw [hb] at this; exact this
  · cases h; have := cok29; rw [hb] at this; exact this
  · cases h; have := cok30; rw [hb] at this; exact this
  · cases h; have := cok31; rw [hb] at this; exact this
  · cases h; have := cok32; rw [hb] at this; exact this
  · cases h; have := cok33; rw [hb] at this; exact this
  · cases h; have := cok34; rw [hb] at this; exact this
  · cases h; have := cok35; rw [hb] at this; exact this
  · cases h; have := cok36; rw [hb] at this; exact this
  · cases h; have := cok37; rw [hb] at this; exact this
  · cases h; have := cok38; rw [hb] at this; exact this
  · cases h; have := cok39; rw [hb] at this; exact this
  · cases h; have := cok40; rw [hb] at this; exact this
  · cases h; have := cok43; rw [hb] at this; exact this
  · cases h; have := cok44; rw [hb] at this; exact this
  · cases h; have := cok45; rw [hb] at this; exact this
  · cases h; have := cok46; rw [hb] at this; exact this
  · cases h; have := cok47; rw [hb] at this; exact this
  · cases h; have := cok48; rw [hb] at this; exact this
  · cases h; have := cok49; rw [hb] at this; exact this
  · cases h; have := cok64; rw [hb] at this; exact this
  · cases h; have := cok67; rw [hb] at this; exact this
  · cases h; have := cok68; rw [hb] at this; exact this
  · cases h; have := cok69; rw [hb] at this; exact this
  · cases h
theorem mixok : Tryd.prog.follows .mixedOrders = true := by kernel_rfl
end Go.Proofs.YtfiefcfjedmhaaaDoor
