/- The tables are so. Printed by genok.py. -/
import Derived.Test.YtfkfcjdoebjlfaaTab
import Derived.Test.YtfkfcjdoebjlfaaAbsTop
import Derived.KernelRfl
namespace Go.Proofs.Ytfkfcjdoebjlfaa
open Go Go.Abs
set_option linter.unusedVariables false
set_option maxRecDepth 100000
theorem ty1ok : TyFact Try.prog 1 ty1 := TyFact.of (by kernel_rfl) (by kernel_rfl) (by kernel_rfl) (by kernel_rfl) (by kernel_rfl) (by kernel_rfl) rfl (fun _ => rfl) Try.underlying1 rfl ⟨_, _, _, rfl⟩
theorem ty2ok : TyFact Try.prog 2 ty2 := TyFact.of (by kernel_rfl) (by kernel_rfl) (by kernel_rfl) (by kernel_rfl) (by kernel_rfl) (by kernel_rfl) rfl (fun _ => rfl) Try.underlying2 rfl trivial
theorem ty3ok : TyFact Try.prog 3 ty3 := TyFact.of (by kernel_rfl) (by kernel_rfl) (by kernel_rfl) (by kernel_rfl) (by kernel_rfl) (by kernel_rfl) rfl (fun _ => rfl) Try.underlying3 rfl trivial
theorem ty4ok : TyFact Try.prog 4 ty4 := TyFact.of (by kernel_rfl) (by kernel_rfl) (by kernel_rfl) (by kernel_rfl) (by kernel_rfl) (by kernel_rfl) rfl (fun _ => rfl) Try.underlying4 rfl rfl
theorem ty9ok : TyFact Try.prog 9 ty9 := TyFact.of (by kernel_rfl) (by kernel_rfl) (by kernel_rfl) (by kernel_rfl) (by kernel_rfl) (by kernel_rfl) rfl (fun _ => rfl) Try.underlying9 rfl rfl
theorem ty22ok : TyFact Try.prog 22 ty22 := TyFact.of (by kernel_rfl) (by kernel_rfl) (by kernel_rfl) (by kernel_rfl) (by kernel_rfl) (by kernel_rfl) rfl (fun _ => rfl) Try.underlying22 rfl rfl
theorem ty23ok : TyFact Try.prog 23 ty23 := TyFact.of (by kernel_rfl) (by kernel_rfl) (by kernel_rfl) (by kernel_rfl) (by kernel_rfl) (by kernel_rfl) rfl (fun _ => rfl) Try.underlying23 rfl rfl
theorem ty25ok : TyFact Try.prog 25 ty25 := TyFact.of (by kernel_rfl) (by kernel_rfl) (by kernel_rfl) (by kernel_rfl) (by kernel_rfl) (by kernel_rfl) rfl (fun h => by cases h) Try.underlying25 rfl ⟨_, rfl, by kernel_rfl, by decide⟩
theorem ty28ok : TyFact Try.prog 28 ty28 := TyFact.of (by kernel_rfl) (by kernel_rfl) (by kernel_rfl) (by kernel_rfl) (by kernel_rfl) (by kernel_rfl) rfl (fun _ => rfl) Try.underlying28 rfl trivial
theorem ty35ok : TyFact Try.prog 35 ty35 := TyFact.of (by kernel_rfl) (by kernel_rfl) (by kernel_rfl) (by kernel_rfl) (by kernel_rfl) (by kernel_rfl) rfl (fun _ => rfl) Try.underlying35 rfl rfl
theorem ty38ok : TyFact Try.prog 38 ty38 := TyFact.of (by kernel_rfl) (by kernel_rfl) (by kernel_rfl) (by kernel_rfl) (by kernel_rfl) (by kernel_rfl) rfl (fun _ => rfl) Try.underlying38 rfl ⟨_, _, _, rfl⟩
theorem ty43ok : TyFact Try.prog 43 ty43 := TyFact.of (by kernel_rfl) (by kernel_rfl) (by kernel_rfl) (by kernel_rfl) (by kernel_rfl) (by kernel_rfl) rfl (fun _ => rfl) Try.underlying43 rfl rfl
theorem ty58ok : TyFact Try.prog 58 ty58 := TyFact.of (by kernel_rfl) (by kernel_rfl) (by kernel_rfl) (by kernel_rfl) (by kernel_rfl) (by kernel_rfl) rfl (fun _ => rfl) Try.underlying58 rfl rfl
theorem ty60ok : TyFact Try.prog 60 ty60 := TyFact.of (by kernel_rfl) (by kernel_rfl) (by kernel_rfl) (by kernel_rfl) (by kernel_rfl) (by kernel_rfl) rfl (fun h => by cases h) Try.underlying60 rfl ⟨_, rfl, by kernel_rfl, by decide⟩
theorem ty61ok : TyFact Try.prog 61 ty61 := TyFact.of (by kernel_rfl) (by kernel_rfl) (by kernel_rfl) (by kernel_rfl) (by kernel_rfl) (by kernel_rfl) rfl (fun _ => rfl) Try.underlying61 rfl ⟨_, _, _, rfl⟩
theorem ty65ok : TyFact Try.prog 65 ty65 := TyFact.of (by kernel_rfl) (by kernel_rfl) (by kernel_rfl) (by kernel_rfl) (by kernel_rfl) (by kernel_rfl) rfl (fun _ => rfl) Try.underlying65 rfl ⟨_, _, _, rfl⟩
theorem tyok : TyOk Try.prog tT := by
  intro t ti h
  unfold tT at h
  split at h
  · cases h; exact ty1ok
  · cases h; exact ty2ok
  · cases h; exact ty3ok
  · cases h; exact ty4ok
  · cases h; exact ty9ok
  · cases h; exact ty22ok
  · cases h; exact ty23ok
  · cases h; exact ty25ok
  · cases h; exact ty28ok
  · cases h; exact ty35ok
  · cases h; exact ty38ok
  · cases h; exact ty43ok
  · cases h; exact ty58ok
  · cases h; exact ty60ok
  · cases h; exact ty61ok
  · cases h; exact ty65ok
  · cases h
theorem fok : ∀ f F, fF f = some F → Try.prog.funcs[f]? = some F ∧ (F.name == "runtime.NumGoroutine") = false := by
  intro f F h
  unfold fF at h
  split at h
  · cases h; exact ⟨Try.func3, by kernel_rfl⟩
  · cases h; exact ⟨Try.func4, by kernel_rfl⟩
  · cases h; exact ⟨Try.func5, by kernel_rfl⟩
  · cases h; exact ⟨Try.func6, by kernel_rfl⟩
  · cases h; exact ⟨Try.func7, by kernel_rfl⟩
  · cases h; exact ⟨Try.func8, by kernel_rfl⟩
  · cases h; exact ⟨Try.func9, by kernel_rfl⟩
  · cases h; exact ⟨Try.func10, by kernel_rfl⟩
  · cases h; exact ⟨Try.func11, by kernel_rfl⟩
  · cases h; exact ⟨Try.func12, by kernel_rfl⟩
  · cases h; exact ⟨Try.func13, by kernel_rfl⟩
  · cases h; exact ⟨Try.func14, by kernel_rfl⟩
  · cases h; exact ⟨Try.func15, by kernel_rfl⟩
  · cases h; exact ⟨Try.func16, by kernel_rfl⟩
  · cases h; exact ⟨Try.func17, by kernel_rfl⟩
  · cases h; exact ⟨Try.func18, by kernel_rfl⟩
  · cases h; exact ⟨Try.func19, by kernel_rfl⟩
  · cases h; exact ⟨Try.func20, by kernel_rfl⟩
  · cases h; exact ⟨Try.func21, by kernel_rfl⟩
  · cases h; exact ⟨Try.func22, by kernel_rfl⟩
  · cases h; exact ⟨Try.func23, by kernel_rfl⟩
  · cases h; exact ⟨Try.func24, by kernel_rfl⟩
  · cases h; exact ⟨Try.func25, by kernel_rfl⟩
  · cases h; exact ⟨Try.func26, by kernel_rfl⟩
  · cases h; exact ⟨Try.func27, by kernel_rfl⟩
  · cases h; exact ⟨Try.func28, by kernel_rfl⟩
  · cases h; exact ⟨Try.func29, by kernel_rfl⟩
  · cases h; exact ⟨Try.func30, by kernel_rfl⟩
  · cases h; exact ⟨Try.func31, by kernel_rfl⟩
  · cases h; exact ⟨Try.func32, by kernel_rfl⟩
  · cases h; exact ⟨Try.func33, by kernel_rfl⟩
  · cases h; exact ⟨Try.func34, by kernel_rfl⟩
  · cases h; exact ⟨Try.func35, by kernel_rfl⟩
  · cases h; exact ⟨Try.func36, by kernel_rfl⟩
  · cases h; exact ⟨Try.func37, by kernel_rfl⟩
  · cases h; exact ⟨Try.func38, by kernel_rfl⟩
  · cases h; exact ⟨Try.func39, by kernel_rfl⟩
  · cases h; exact ⟨Try.func40, by kernel_rfl⟩
  · cases h; exact ⟨Try.func41, by kernel_rfl⟩
  · cases h; exact ⟨Try.func42, by kernel_rfl⟩
  · cases h; exact ⟨Try.func43, by kernel_rfl⟩
  · cases h; exact ⟨Try.func44, by kernel_rfl⟩
  · cases h; exact ⟨Try.func45, by kernel_rfl⟩
  · cases h; exact ⟨Try.func46, by kernel_rfl⟩
  · cases h; exact ⟨Try.func47, by kernel_rfl⟩
  · cases h; exact ⟨Try.func48, by kernel_rfl⟩
  · cases h; exact ⟨Try.func49, by kernel_rfl⟩
  · cases h; exact ⟨Try.func50, by kernel_rfl⟩
  · cases h; exact ⟨Try.func51, by kernel_rfl⟩
  · cases h; exact ⟨Try.func52, by kernel_rfl⟩
  · cases h; exact ⟨Try.func53, by kernel_rfl⟩
  · cases h; exact ⟨Try.func54, by kernel_rfl⟩
  · cases h; exact ⟨Try.func55, by kernel_rfl⟩
  · cases h; exact ⟨Try.func56, by kernel_rfl⟩
  · cases h; exact ⟨Try.func57, by kernel_rfl⟩
  · cases h; exact ⟨Try.func58, by kernel_rfl⟩
  · cases h; exact ⟨Try.func59, by kernel_rfl⟩
  · cases h
theorem cok3 : (match Try.f3.body with
    | some c => codeOk (hH 3).eff c
    | none => true) = true := by kernel_rfl
theorem cok4 : (match Try.f4.body with
    | some c => codeOk (hH 4).eff c
    | none => true) = true := by kernel_rfl
theorem cok5 : (match Try.f5.body with
    | some c => codeOk (hH 5).eff c
    | none => true) = true := by kernel_rfl
theorem cok6 : (match Try.f6.body with
    | some c => codeOk (hH 6).eff c
    | none => true) = true := by kernel_rfl
theorem cok7 : (match Try.f7.body with
    | some c => codeOk (hH 7).eff c
    | none => true) = true := by kernel_rfl
theorem cok8 : (match Try.f8.body with
    | some c => codeOk (hH 8).eff c
    | none => true) = true := by kernel_rfl
theorem cok9 : (match Try.f9.body with
    | some c => codeOk (hH 9).eff c
    | none => true) = true := by kernel_rfl
theorem cok10 : (match Try.f10.body with
    | some c => codeOk (hH 10).eff c
    | none => true) = true := by kernel_rfl
theorem cok11 : (match Try.f11.body with
    | some c => codeOk (hH 11).eff c
    | none => true) = true := by kernel_rfl
theorem cok12 : (match Try.f12.body with
    | some c => codeOk (hH 12).eff c
    | none => true) = true := by kernel_rfl
theorem cok13 : (match Try.f13.body with
    | some c => codeOk (hH 13).eff c
    | none => true) = true := by kernel_rfl
theorem cok14 : (match Try.f14.body with
    | some c => codeOk (hH 14).eff c
    | none => true) = true := by kernel_rfl
theorem cok15 : (match Try.f15.body with
    | some c => codeOk (hH 15).eff c
    | none => true) = true := by kernel_rfl
theorem cok16 : (match Try.f16.body with
    | some c => codeOk (hH 16).eff c
    | none => true) = true := by kernel_rfl
theorem cok17 : (match Try.f17.body with
    | some c => codeOk (hH 17).eff c
    | none => true) = true := by kernel_rfl
theorem cok18 : (match Try.f18.body with
    | some c => codeOk (hH 18).eff c
    | none => true) = true := by kernel_rfl
theorem cok19 : (match Try.f19.body with
    | some c => codeOk (hH 19).eff c
    | none => true) = true := by kernel_rfl
theorem cok20 : (match Try.f20.body with
    | some c => codeOk (hH 20).eff c
    | none => true) = true := by kernel_rfl
theorem cok21 : (match Try.f21.body with
    | some c => codeOk (hH 21).eff c
    | none => true) = true := by kernel_rfl
theorem cok22 : (match Try.f22.body with
    | some c => codeOk (hH 22).eff c
    | none => true) = true := by kernel_rfl
theorem cok23 : (match Try.f23.body with
    | some c => codeOk (hH 23).eff c
    | none => true) = true := by kernel_rfl
theorem cok24 : (match Try.f24.body with
    | some c => codeOk (hH 24).eff c
    | none => true) = true := by kernel_rfl
theorem cok25 : (match Try.f25.body with
    | some c => codeOk (hH 25).eff c
    | none => true) = true := by kernel_rfl
theorem cok26 : (match Try.f26.body with
    | some c => codeOk (hH 26).eff c
    | none => true) = true := by kernel_rfl
theorem cok27 : (match Try.f27.body with
    | some c => codeOk (hH 27).eff c
    | none => true) = true := by kernel_rfl
theorem cok28 : (match Try.f28.body with
    | some c => codeOk (hH 28).eff c
    | none => true) = true := by kernel_rfl
theorem cok29 : (match Try.f29.body with
    | some c => codeOk (hH 29).eff c
    | none => true) = true := by kernel_rfl
theorem cok30 : (match Try.f30.body with
    | some c => codeOk (hH 30).eff c
    | none => true) = true := by kernel_rfl
theorem cok31 : (match Try.f31.body with
    | some c => codeOk (hH 31).eff c
    | none => true) = true := by kernel_rfl
theorem cok32 : (match Try.f32.body with
    | some c => codeOk (hH 32).eff c
    | none => true) = true := by kernel_rfl
theorem cok33 : (match Try.f33.body with
    | some c => codeOk (hH 33).eff c
    | none => true) = true := by kernel_rfl
theorem cok34 : (match Try.f34.body with
    | some c => codeOk (hH 34).eff c
    | none => true) = true := by kernel_rfl
theorem cok35 : (match Try.f35.body with
    | some c => codeOk (hH 35).eff c
    | none => true) = true := by kernel_rfl
theorem cok36 : (match Try.f36.body with
    | some c => codeOk (hH 36).eff c
    | none => true) = true := by kernel_rfl
theorem cok37 : (match Try.f37.body with
    | some c => codeOk (hH 37).eff c
    | none => true) = true := by kernel_rfl
theorem cok38 : (match Try.f38.body with
    | some c => codeOk (hH 38).eff c
    | none => true) = true := by kernel_rfl
theorem cok39 : (match Try.f39.body with
    | some c => codeOk (hH 39).eff c
    | none => true) = true := by kernel_rfl
theorem cok40 : (match Try.f40.body with
    | some c => codeOk (hH 40).eff c
    | none => true) = true := by kernel_rfl
theorem cok41 : (match Try.f41.body with
    | some c => codeOk (hH 41).eff c
    | none => true) = true := by kernel_rfl
theorem cok42 : (match Try.f42.body with
    | some c => codeOk (hH 42).eff c
    | none => true) = true := by kernel_rfl
theorem cok43 : (match Try.f43.body with
    | some c => codeOk (hH 43).eff c
    | none => true) = true := by kernel_rfl
theorem cok44 : (match Try.f44.body with
    | some c => codeOk (hH 44).eff c
    | none => true) = true := by kernel_rfl
theorem cok45 : (match Try.f45.body with
    | some c => codeOk (hH 45).eff c
    | none => true) = true := by kernel_rfl
theorem cok46 : (match Try.f46.body with
    | some c => codeOk (hH 46).eff c
    | none => true) = true := by kernel_rfl
theorem cok47 : (match Try.f47.body with
    | some c => codeOk (hH 47).eff c
    | none => true) = true := by kernel_rfl
theorem cok48 : (match Try.f48.body with
    | some c => codeOk (hH 48).eff c
    | none => true) = true := by kernel_rfl
theorem cok49 : (match Try.f49.body with
    | some c => codeOk (hH 49).eff c
    | none => true) = true := by kernel_rfl
theorem cok50 : (match Try.f50.body with
    | some c => codeOk (hH 50).eff c
    | none => true) = true := by kernel_rfl
theorem cok51 : (match Try.f51.body with
    | some c => codeOk (hH 51).eff c
    | none => true) = true := by kernel_rfl
theorem cok52 : (match Try.f52.body with
    | some c => codeOk (hH 52).eff c
    | none => true) = true := by kernel_rfl
theorem cok53 : (match Try.f53.body with
    | some c => codeOk (hH 53).eff c
    | none => true) = true := by kernel_rfl
theorem cok54 : (match Try.f54.body with
    | some c => codeOk (hH 54).eff c
    | none => true) = true := by kernel_rfl
theorem cok55 : (match Try.f55.body with
    | some c => codeOk (hH 55).eff c
    | none => true) = true := by kernel_rfl
theorem cok56 : (match Try.f56.body with
    | some c => codeOk (hH 56).eff c
    | none => true) = true := by kernel_rfl
theorem cok57 : (match Try.f57.body with
    | some c => codeOk (hH 57).eff c
    | none => true) = true := by kernel_rfl
theorem cok58 : (match Try.f58.body with
    | some c => codeOk (hH 58).eff c
    | none => true) = true := by kernel_rfl
theorem cok59 : (match Try.f59.body with
    | some c => codeOk (hH 59).eff c
    | none => true) = true := by kernel_rfl
theorem hok : ∀ f F code, fF f = some F → F.body = some code → codeOk (hH f).eff code = true := by
  intro f F code h hb
  unfold fF at h
  split at h
  · cases h; have := cok3; rw [hb] at this; exact this
  · cases h; have := cok4; rw [hb] at this; exact this
  · cases h; have := cok5; rw [hb] at this; exact this
  · cases h; have := cok6; rw [hb] at this; exact this
  · cases h; have := cok7; rw [hb] at this; exact this
  · cases h; have := cok8; rw [hb] at this; exact this
  · cases h; have := cok9; rw [hb] at this; exact this
  · cases h; have := cok10; rw [hb] at this; exact this
  · cases h; have := cok11; rw [hb] at this; exact this
  · cases h; have := cok12; rw [hb] at this; exact this
  · cases h; have := cok13; rw [hb] at this; exact this
  · cases h; have := cok14; rw [hb] at this; exact this
  · cases h; have := cok15; rw [hb] at this; exact this
  · cases h; have := cok16; rw [hb] at this; exact this
  · cases h; have := cok17; rw [hb] at this; exact this
  · cases h; have := cok18; rw [hb] at this; exact this
  · cases h; have := cok19; rw [hb] at this; exact this
  · cases h; have := cok20; rw [hb] at this; exact this
  · cases h; have := cok21; rw [hb] at this; exact this
  · cases h; have := cok22; rw [hb] at this; exact this
  · cases h; have := cok23; rw [hb] at this; exact this
  · cases h; have := cok24; rw [hb] at this; exact this
  · cases h; have := cok25; rw [hb] at this; exact this
  · cases h; have := cok26; rw [hb] at this; exact this
  · cases h; have := cok27; rw [hb] at this; exact this
  · cases h; have := cok28; rw [hb] at this; exact this
  · cases h; have := cok29; rw [hb] at this; exact this
  · cases h; have := cok30; rw [hb] at this; exact this
  · cases h; have := cok31; rw [hb] at this; exact this
  · cases h; have := cok32; rw [hb] at this; exact this
  · cases h; have := cok33; rw [hb] at this; exact this
  · cases h; have := cok34; rw [hb] at this; exact this
  · cases h; have := cok35; rw [hb] at this; exact this
  · cases h; have := cok36; rw [hb] at this; exact this
  · cases h; have := cok37; rw [hb] at this; exact this
  · cases h; have := cok38; rw [hb] at this; exact this
  · cases h; have := cok39; rw [hb] at this; exact this
  · cases h; have := cok40; rw [hb] at this; exact this
  · cases h; have := cok41; rw [hb] at this; exact this
  · cases h; have := cok42; rw [hb] at this; exact this
  · cases h; have := cok43; rw [hb] at this; exact this
  · cases h; have := cok44; rw [hb] at this; exact this
  · cases h; have := cok45; rw [hb] at this; exact this
  · cases h; have := cok46; rw [hb] at this; exact this
  · cases h; have := cok47; rw [hb] at this; exact this
  · cases h; have := cok48; rw [hb] at this; exact this
  · cases h; have := cok49; rw [hb] at this; exact this
  · cases h; have := cok50; rw [hb] at this; exact this
  · cases h; have := cok51; rw [hb] at this; exact this
  · cases h; have := cok52; rw [hb] at this; exact this
  · cases h; have := cok53; rw [hb] at this; exact this
  · cases h; have := cok54; rw [hb] at this; exact this
  · cases h; have := cok55; rw [hb] at this; exact this
  · cases h; have := cok56; rw [hb] at this; exact this
  · cases h; have := cok57; rw [hb] at this; exact this
  · cases h; have := cok58; rw [hb] at this; exact this
  · cases h; have := cok59; rw [hb] at this; exact this
  · cases h
theorem mixok : Try.prog.follows .mixedOrders = true := by kernel_rfl
end Go.Proofs.Ytfkfcjdoebjlfaa
