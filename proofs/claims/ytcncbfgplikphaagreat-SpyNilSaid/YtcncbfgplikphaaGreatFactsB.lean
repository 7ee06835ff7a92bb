/-
  Part FactsB of the proof: a deterministic evaluator of the machine, its soundness, and what it gives for this seat.
-/
import Derived.Test.YtcncbfgplikphaaGreatFactsA
open Go.Proofs
namespace Go.Ac
theorem aF0 : T.AllI (fun n fn => Tryz.prog.funcs[n]? = some fn ∧ ∀ args w, (callFunc n args).run Tryz.prog w = .ok (.enter n args) w) 64 63 tFuncs0 := ⟨fun x h => (by cases h; exact ⟨Tryz.func63, Tryz.call63⟩), trivial, trivial⟩
theorem aO0 : T.AllI (fun _ fn => fnOkB tab 0 fn = true) 64 63 tFuncs0 := ⟨fun x h => (by cases h; exact (show fnOkB tab 0 Tryz.f63 = true by kernel_rfl)), trivial, trivial⟩
theorem aF1 : T.AllI (fun n fn => Tryz.prog.funcs[n]? = some fn ∧ ∀ args w, (callFunc n args).run Tryz.prog w = .ok (.enter n args) w) 256 287 tFuncs1 := ⟨fun x h => (by cases h; exact ⟨Tryz.func287, Tryz.call287⟩), trivial, trivial⟩
theorem aO1 : T.AllI (fun _ fn => fnOkB tab 0 fn = true) 256 287 tFuncs1 := ⟨fun x h => (by cases h; exact (show fnOkB tab 0 Tryz.f287 = true by kernel_rfl)), trivial, trivial⟩
theorem aF2 : T.AllI (fun n fn => Tryz.prog.funcs[n]? = some fn ∧ ∀ args w, (callFunc n args).run Tryz.prog w = .ok (.enter n args) w) 128 159 tFuncs2 := ⟨fun x h => (by cases h), aF1, trivial⟩
theorem aO2 : T.AllI (fun _ fn => fnOkB tab 0 fn = true) 128 159 tFuncs2 := ⟨fun x h => (by cases h), aO1, trivial⟩
theorem aF3 : T.AllI (fun n fn => Tryz.prog.funcs[n]? = some fn ∧ ∀ args w, (callFunc n args).run Tryz.prog w = .ok (.enter n args) w) 128 223 tFuncs3 := ⟨fun x h => (by cases h; exact ⟨Tryz.func223, Tryz.call223⟩), trivial, trivial⟩
theorem aO3 : T.AllI (fun _ fn => fnOkB tab 0 fn = true) 128 223 tFuncs3 := ⟨fun x h => (by cases h; exact (show fnOkB tab 0 Tryz.f223 = true by kernel_rfl)), trivial, trivial⟩
theorem aF4 : T.AllI (fun n fn => Tryz.prog.funcs[n]? = some fn ∧ ∀ args w, (callFunc n args).run Tryz.prog w = .ok (.enter n args) w) 64 95 tFuncs4 := ⟨fun x h => (by cases h), aF2, aF3⟩
theorem aO4 : T.AllI (fun _ fn => fnOkB tab 0 fn = true) 64 95 tFuncs4 := ⟨fun x h => (by cases h), aO2, aO3⟩
theorem aF5 : T.AllI (fun n fn => Tryz.prog.funcs[n]? = some fn ∧ ∀ args w, (callFunc n args).run Tryz.prog w = .ok (.enter n args) w) 32 31 tFuncs5 := ⟨fun x h => (by cases h; exact ⟨Tryz.func31, Tryz.call31⟩), aF0, aF4⟩
theorem aO5 : T.AllI (fun _ fn => fnOkB tab 0 fn = true) 32 31 tFuncs5 := ⟨fun x h => (by cases h; exact (show fnOkB tab 0 Tryz.f31 = true by kernel_rfl)), aO0, aO4⟩
theorem aF6 : T.AllI (fun n fn => Tryz.prog.funcs[n]? = some fn ∧ ∀ args w, (callFunc n args).run Tryz.prog w = .ok (.enter n args) w) 256 399 tFuncs6 := ⟨fun x h => (by cases h; exact ⟨Tryz.func399, Tryz.call399⟩), trivial, trivial⟩
theorem aO6 : T.AllI (fun _ fn => fnOkB tab 0 fn = true) 256 399 tFuncs6 := ⟨fun x h => (by cases h; exact (show fnOkB tab 0 Tryz.f399 = true by kernel_rfl)), trivial, trivial⟩
theorem aF7 : T.AllI (fun n fn => Tryz.prog.funcs[n]? = some fn ∧ ∀ args w, (callFunc n args).run Tryz.prog w = .ok (.enter n args) w) 128 143 tFuncs7 := ⟨fun x h => (by cases h; exact ⟨Tryz.func143, Tryz.call143⟩), trivial, aF6⟩
theorem aO7 : T.AllI (fun _ fn => fnOkB tab 0 fn = true) 128 143 tFuncs7 := ⟨fun x h => (by cases h; exact (show fnOkB tab 0 Tryz.f143 = true by kernel_rfl)), trivial, aO6⟩
theorem aF8 : T.AllI (fun n fn => Tryz.prog.funcs[n]? = some fn ∧ ∀ args w, (callFunc n args).run Tryz.prog w = .ok (.enter n args) w) 256 335 tFuncs8 := ⟨fun x h => (by cases h; exact ⟨Tryz.func335, Tryz.call335⟩), trivial, trivial⟩
theorem aO8 : T.AllI (fun _ fn => fnOkB tab 0 fn = true) 256 335 tFuncs8 := ⟨fun x h => (by cases h; exact (show fnOkB tab 0 Tryz.f335 = true by kernel_rfl)), trivial, trivial⟩
theorem aF9 : T.AllI (fun n fn => Tryz.prog.funcs[n]? = some fn ∧ ∀ args w, (callFunc n args).run Tryz.prog w = .ok (.enter n args) w) 128 207 tFuncs9 := ⟨fun x h => (by cases h; exact ⟨Tryz.func207, Tryz.call207⟩), aF8, trivial⟩
theorem aO9 : T.AllI (fun _ fn => fnOkB tab 0 fn = true) 128 207 tFuncs9 := ⟨fun x h => (by cases h; exact (show fnOkB tab 0 Tryz.f207 = true by kernel_rfl)), aO8, trivial⟩
theorem aF10 : T.AllI (fun n fn => Tryz.prog.funcs[n]? = some fn ∧ ∀ args w, (callFunc n args).run Tryz.prog w = .ok (.enter n args) w) 64 79 tFuncs10 := ⟨fun x h => (by cases h; exact ⟨Tryz.func79, Tryz.call79⟩), aF7, aF9⟩
theorem aO10 : T.AllI (fun _ fn => fnOkB tab 0 fn = true) 64 79 tFuncs10 := ⟨fun x h => (by cases h; exact (show fnOkB tab 0 Tryz.f79 = true by kernel_rfl)), aO7, aO9⟩
theorem aF11 : T.AllI (fun n fn => Tryz.prog.funcs[n]? = some fn ∧ ∀ args w, (callFunc n args).run Tryz.prog w = .ok (.enter n args) w) 256 303 tFuncs11 := ⟨fun x h => (by cases h; exact ⟨Tryz.func303, Tryz.call303⟩), trivial, trivial⟩
theorem aO11 : T.AllI (fun _ fn => fnOkB tab 0 fn = true) 256 303 tFuncs11 := ⟨fun x h => (by cases h; exact (show fnOkB tab 0 Tryz.f303 = true by kernel_rfl)), trivial, trivial⟩
theorem aF12 : T.AllI (fun n fn => Tryz.prog.funcs[n]? = some fn ∧ ∀ args w, (callFunc n args).run Tryz.prog w = .ok (.enter n args) w) 128 175 tFuncs12 := ⟨fun x h => (by cases h), aF11, trivial⟩
theorem aO12 : T.AllI (fun _ fn => fnOkB tab 0 fn = true) 128 175 tFuncs12 := ⟨fun x h => (by cases h), aO11, trivial⟩
theorem aF13 : T.AllI (fun n fn => Tryz.prog.funcs[n]? = some fn ∧ ∀ args w, (callFunc n args).run Tryz.prog w = .ok (.enter n args) w) 256 367 tFuncs13 := ⟨fun x h => (by cases h; exact ⟨Tryz.func367, Tryz.call367⟩), trivial, trivial⟩
theorem aO13 : T.AllI (fun _ fn => fnOkB tab 0 fn = true) 256 367 tFuncs13 := ⟨fun x h => (by cases h; exact (show fnOkB tab 0 Tryz.f367 = true by kernel_rfl)), trivial, trivial⟩
theorem aF14 : T.AllI (fun n fn => Tryz.prog.funcs[n]? = some fn ∧ ∀ args w, (callFunc n args).run Tryz.prog w = .ok (.enter n args) w) 128 239 tFuncs14 := ⟨fun x h => (by cases h), aF13, trivial⟩
theorem aO14 : T.AllI (fun _ fn => fnOkB tab 0 fn = true) 128 239 tFuncs14 := ⟨fun x h => (by cases h), aO13, trivial⟩
theorem aF15 : T.AllI (fun n fn => Tryz.prog.funcs[n]? = some fn ∧ ∀ args w, (callFunc n args).run Tryz.prog w = .ok (.enter n args) w) 64 111 tFuncs15 := ⟨fun x h => (by cases h), aF12, aF14⟩
theorem aO15 : T.AllI (fun _ fn => fnOkB tab 0 fn = true) 64 111 tFuncs15 := ⟨fun x h => (by cases h), aO12, aO14⟩
theorem aF16 : T.AllI (fun n fn => Tryz.prog.funcs[n]? = some fn ∧ ∀ args w, (callFunc n args).run Tryz.prog w = .ok (.enter n args) w) 32 47 tFuncs16 := ⟨fun x h => (by cases h), aF10, aF15⟩
theorem aO16 : T.AllI (fun _ fn => fnOkB tab 0 fn = true) 32 47 tFuncs16 := ⟨fun x h => (by cases h), aO10, aO15⟩
theorem aF17 : T.AllI (fun n fn => Tryz.prog.funcs[n]? = some fn ∧ ∀ args w, (callFunc n args).run Tryz.prog w = .ok (.enter n args) w) 16 15 tFuncs17 := ⟨fun x h => (by cases h; exact ⟨Tryz.func15, Tryz.call15⟩), aF5, aF16⟩
theorem aO17 : T.AllI (fun _ fn => fnOkB tab 0 fn = true) 16 15 tFuncs17 := ⟨fun x h => (by cases h; exact (show fnOkB tab 0 Tryz.f15 = true by kernel_rfl)), aO5, aO16⟩
theorem aF18 : T.AllI (fun n fn => Tryz.prog.funcs[n]? = some fn ∧ ∀ args w, (callFunc n args).run Tryz.prog w = .ok (.enter n args) w) 256 263 tFuncs18 := ⟨fun x h => (by cases h; exact ⟨Tryz.func263, Tryz.call263⟩), trivial, trivial⟩
theorem aO18 : T.AllI (fun _ fn => fnOkB tab 0 fn = true) 256 263 tFuncs18 := ⟨fun x h => (by cases h; exact (show fnOkB tab 0 Tryz.f263 = true by kernel_rfl)), trivial, trivial⟩
theorem aF19 : T.AllI (fun n fn => Tryz.prog.funcs[n]? = some fn ∧ ∀ args w, (callFunc n args).run Tryz.prog w = .ok (.enter n args) w) 256 391 tFuncs19 := ⟨fun x h => (by cases h; exact ⟨Tryz.func391, Tryz.call391⟩), trivial, trivial⟩
theorem aO19 : T.AllI (fun _ fn => fnOkB tab 0 fn = true) 256 391 tFuncs19 := ⟨fun x h => (by cases h; exact (show fnOkB tab 0 Tryz.f391 = true by kernel_rfl)), trivial, trivial⟩
theorem aF20 : T.AllI (fun n fn => Tryz.prog.funcs[n]? = some fn ∧ ∀ args w, (callFunc n args).run Tryz.prog w = .ok (.enter n args) w) 128 135 tFuncs20 := ⟨fun x h => (by cases h; exact ⟨Tryz.func135, Tryz.call135⟩), aF18, aF19⟩
theorem aO20 : T.AllI (fun _ fn => fnOkB tab 0 fn = true) 128 135 tFuncs20 := ⟨fun x h => (by cases h; exact (show fnOkB tab 0 Tryz.f135 = true by kernel_rfl)), aO18, aO19⟩
theorem aF21 : T.AllI (fun n fn => Tryz.prog.funcs[n]? = some fn ∧ ∀ args w, (callFunc n args).run Tryz.prog w = .ok (.enter n args) w) 256 327 tFuncs21 := ⟨fun x h => (by cases h; exact ⟨Tryz.func327, Tryz.call327⟩), trivial, trivial⟩
theorem aO21 : T.AllI (fun _ fn => fnOkB tab 0 fn = true) 256 327 tFuncs21 := ⟨fun x h => (by cases h; exact (show fnOkB tab 0 Tryz.f327 = true by kernel_rfl)), trivial, trivial⟩
theorem aF22 : T.AllI (fun n fn => Tryz.prog.funcs[n]? = some fn ∧ ∀ args w, (callFunc n args).run Tryz.prog w = .ok (.enter n args) w) 128 199 tFuncs22 := ⟨fun x h => (by cases h), aF21, trivial⟩
theorem aO22 : T.AllI (fun _ fn => fnOkB tab 0 fn = true) 128 199 tFuncs22 := ⟨fun x h => (by cases h), aO21, trivial⟩
theorem aF23 : T.AllI (fun n fn => Tryz.prog.funcs[n]? = some fn ∧ ∀ args w, (callFunc n args).run Tryz.prog w = .ok (.enter n args) w) 64 71 tFuncs23 := ⟨fun x h => (by cases h), aF20, aF22⟩
theorem aO23 : T.AllI (fun _ fn => fnOkB tab 0 fn = true) 64 71 tFuncs23 := ⟨fun x h => (by cases h), aO20, aO22⟩
theorem aF24 : T.AllI (fun n fn => Tryz.prog.funcs[n]? = some fn ∧ ∀ args w, (callFunc n args).run Tryz.prog w = .ok (.enter n args) w) 256 295 tFuncs24 := ⟨fun x h => (by cases h; exact ⟨Tryz.func295, Tryz.call295⟩), trivial, trivial⟩
theorem aO24 : T.AllI (fun _ fn => fnOkB tab 0 fn = true) 256 295 tFuncs24 := ⟨fun x h => (by cases h; exact (show fnOkB tab 0 Tryz.f295 = true by kernel_rfl)), trivial, trivial⟩
theorem aF25 : T.AllI (fun n fn => Tryz.prog.funcs[n]? = some fn ∧ ∀ args w, (callFunc n args).run Tryz.prog w = .ok (.enter n args) w) 128 167 tFuncs25 := ⟨fun x h => (by cases h), aF24, trivial⟩
theorem aO25 : T.AllI (fun _ fn => fnOkB tab 0 fn = true) 128 167 tFuncs25 := ⟨fun x h => (by cases h), aO24, trivial⟩
theorem aF26 : T.AllI (fun n fn => Tryz.prog.funcs[n]? = some fn ∧ ∀ args w, (callFunc n args).run Tryz.prog w = .ok (.enter n args) w) 128 231 tFuncs26 := ⟨fun x h => (by cases h; exact ⟨Tryz.func231, Tryz.call231⟩), trivial, trivial⟩
theorem aO26 : T.AllI (fun _ fn => fnOkB tab 0 fn = true) 128 231 tFuncs26 := ⟨fun x h => (by cases h; exact (show fnOkB tab 0 Tryz.f231 = true by kernel_rfl)), trivial, trivial⟩
theorem aF27 : T.AllI (fun n fn => Tryz.prog.funcs[n]? = some fn ∧ ∀ args w, (callFunc n args).run Tryz.prog w = .ok (.enter n args) w) 64 103 tFuncs27 := ⟨fun x h => (by cases h), aF25, aF26⟩
theorem aO27 : T.AllI (fun _ fn => fnOkB tab 0 fn = true) 64 103 tFuncs27 := ⟨fun x h => (by cases h), aO25, aO26⟩
theorem aF28 : T.AllI (fun n fn => Tryz.prog.funcs[n]? = some fn ∧ ∀ args w, (callFunc n args).run Tryz.prog w = .ok (.enter n args) w) 32 39 tFuncs28 := ⟨fun x h => (by cases h; exact ⟨Tryz.func39, Tryz.call39⟩), aF23, aF27⟩
theorem aO28 : T.AllI (fun _ fn => fnOkB tab 0 fn = true) 32 39 tFuncs28 := ⟨fun x h => (by cases h; exact (show fnOkB tab 0 Tryz.f39 = true by kernel_rfl)), aO23, aO27⟩
theorem aF29 : T.AllI (fun n fn => Tryz.prog.funcs[n]? = some fn ∧ ∀ args w, (callFunc n args).run Tryz.prog w = .ok (.enter n args) w) 256 279 tFuncs29 := ⟨fun x h => (by cases h; exact ⟨Tryz.func279, Tryz.call279⟩), trivial, trivial⟩
theorem aO29 : T.AllI (fun _ fn => fnOkB tab 0 fn = true) 256 279 tFuncs29 := ⟨fun x h => (by cases h; exact (show fnOkB tab 0 Tryz.f279 = true by kernel_rfl)), trivial, trivial⟩
theorem aF30 : T.AllI (fun n fn => Tryz.prog.funcs[n]? = some fn ∧ ∀ args w, (callFunc n args).run Tryz.prog w = .ok (.enter n args) w) 128 151 tFuncs30 := ⟨fun x h => (by cases h; exact ⟨Tryz.func151, Tryz.call151⟩), aF29, trivial⟩
theorem aO30 : T.AllI (fun _ fn => fnOkB tab 0 fn = true) 128 151 tFuncs30 := ⟨fun x h => (by cases h; exact (show fnOkB tab 0 Tryz.f151 = true by kernel_rfl)), aO29, trivial⟩
theorem aF31 : T.AllI (fun n fn => Tryz.prog.funcs[n]? = some fn ∧ ∀ args w, (callFunc n args).run Tryz.prog w = .ok (.enter n args) w) 128 215 tFuncs31 := ⟨fun x h => (by cases h; exact ⟨Tryz.func215, Tryz.call215⟩), trivial, trivial⟩
theorem aO31 : T.AllI (fun _ fn => fnOkB tab 0 fn = true) 128 215 tFuncs31 := ⟨fun x h => (by cases h; exact (show fnOkB tab 0 Tryz.f215 = true by kernel_rfl)), trivial, trivial⟩
theorem aF32 : T.AllI (fun n fn => Tryz.prog.funcs[n]? = some fn ∧ ∀ args w, (callFunc n args).run Tryz.prog w = .ok (.enter n args) w) 64 87 tFuncs32 := ⟨fun x h => (by cases h), aF30, aF31⟩
theorem aO32 : T.AllI (fun _ fn => fnOkB tab 0 fn = true) 64 87 tFuncs32 := ⟨fun x h => (by cases h), aO30, aO31⟩
theorem aF33 : T.AllI (fun n fn => Tryz.prog.funcs[n]? = some fn ∧ ∀ args w, (callFunc n args).run Tryz.prog w = .ok (.enter n args) w) 32 55 tFuncs33 := ⟨fun x h => (by cases h; exact ⟨Tryz.func55, Tryz.call55⟩), aF32, trivial⟩
theorem aO33 : T.AllI (fun _ fn => fnOkB tab 0 fn = true) 32 55 tFuncs33 := ⟨fun x h => (by cases h; exact (show fnOkB tab 0 Tryz.f55 = true by kernel_rfl)), aO32, trivial⟩
theorem aF34 : T.AllI (fun n fn => Tryz.prog.funcs[n]? = some fn ∧ ∀ args w, (callFunc n args).run Tryz.prog w = .ok (.enter n args) w) 16 23 tFuncs34 := ⟨fun x h => (by cases h), aF28, aF33⟩
theorem aO34 : T.AllI (fun _ fn => fnOkB tab 0 fn = true) 16 23 tFuncs34 := ⟨fun x h => (by cases h), aO28, aO33⟩
theorem aF35 : T.AllI (fun n fn => Tryz.prog.funcs[n]? = some fn ∧ ∀ args w, (callFunc n args).run Tryz.prog w = .ok (.enter n args) w) 8 7 tFuncs35 := ⟨fun x h => (by cases h; exact ⟨Tryz.func7, Tryz.call7⟩), aF17, aF34⟩
theorem aO35 : T.AllI (fun _ fn => fnOkB tab 0 fn = true) 8 7 tFuncs35 := ⟨fun x h => (by cases h; exact (show fnOkB tab 0 Tryz.f7 = true by kernel_rfl)), aO17, aO34⟩
theorem aF36 : T.AllI (fun n fn => Tryz.prog.funcs[n]? = some fn ∧ ∀ args w, (callFunc n args).run Tryz.prog w = .ok (.enter n args) w) 128 131 tFuncs36 := ⟨fun x h => (by cases h; exact ⟨Tryz.func131, Tryz.call131⟩), trivial, trivial⟩
theorem aO36 : T.AllI (fun _ fn => fnOkB tab 0 fn = true) 128 131 tFuncs36 := ⟨fun x h => (by cases h; exact (show fnOkB tab 0 Tryz.f131 = true by kernel_rfl)), trivial, trivial⟩
theorem aF37 : T.AllI (fun n fn => Tryz.prog.funcs[n]? = some fn ∧ ∀ args w, (callFunc n args).run Tryz.prog w = .ok (.enter n args) w) 64 67 tFuncs37 := ⟨fun x h => (by cases h; exact ⟨Tryz.func67, Tryz.call67⟩), aF36, trivial⟩
theorem aO37 : T.AllI (fun _ fn => fnOkB tab 0 fn = true) 64 67 tFuncs37 := ⟨fun x h => (by cases h; exact (show fnOkB tab 0 Tryz.f67 = true by kernel_rfl)), aO36, trivial⟩
theorem aF38 : T.AllI (fun n fn => Tryz.prog.funcs[n]? = some fn ∧ ∀ args w, (callFunc n args).run Tryz.prog w = .ok (.enter n args) w) 256 291 tFuncs38 := ⟨fun x h => (by cases h; exact ⟨Tryz.func291, Tryz.call291⟩), trivial, trivial⟩
theorem aO38 : T.AllI (fun _ fn => fnOkB tab 0 fn = true) 256 291 tFuncs38 := ⟨fun x h => (by cases h; exact (show fnOkB tab 0 Tryz.f291 = true by kernel_rfl)), trivial, trivial⟩
theorem aF39 : T.AllI (fun n fn => Tryz.prog.funcs[n]? = some fn ∧ ∀ args w, (callFunc n args).run Tryz.prog w = .ok (.enter n args) w) 128 163 tFuncs39 := ⟨fun x h => (by cases h), aF38, trivial⟩
theorem aO39 : T.AllI (fun _ fn => fnOkB tab 0 fn = true) 128 163 tFuncs39 := ⟨fun x h => (by cases h), aO38, trivial⟩
theorem aF40 : T.AllI (fun n fn => Tryz.prog.funcs[n]? = some fn ∧ ∀ args w, (callFunc n args).run Tryz.prog w = .ok (.enter n args) w) 256 355 tFuncs40 := ⟨fun x h => (by cases h; exact ⟨Tryz.func355, Tryz.call355⟩), trivial, trivial⟩
theorem aO40 : T.AllI (fun _ fn => fnOkB tab 0 fn = true) 256 355 tFuncs40 := ⟨fun x h => (by cases h; exact (show fnOkB tab 0 Tryz.f355 = true by kernel_rfl)), trivial, trivial⟩
theorem aF41 : T.AllI (fun n fn => Tryz.prog.funcs[n]? = some fn ∧ ∀ args w, (callFunc n args).run Tryz.prog w = .ok (.enter n args) w) 128 227 tFuncs41 := ⟨fun x h => (by cases h; exact ⟨Tryz.func227, Tryz.call227⟩), aF40, trivial⟩
theorem aO41 : T.AllI (fun _ fn => fnOkB tab 0 fn = true) 128 227 tFuncs41 := ⟨fun x h => (by cases h; exact (show fnOkB tab 0 Tryz.f227 = true by kernel_rfl)), aO40, trivial⟩
theorem aF42 : T.AllI (fun n fn => Tryz.prog.funcs[n]? = some fn ∧ ∀ args w, (callFunc n args).run Tryz.prog w = .ok (.enter n args) w) 64 99 tFuncs42 := ⟨fun x h => (by cases h), aF39, aF41⟩
theorem aO42 : T.AllI (fun _ fn => fnOkB tab 0 fn = true) 64 99 tFuncs42 := ⟨fun x h => (by cases h), aO39, aO41⟩
theorem aF43 : T.AllI (fun n fn => Tryz.prog.funcs[n]? = some fn ∧ ∀ args w, (callFunc n args).run Tryz.prog w = .ok (.enter n args) w) 32 35 tFuncs43 := ⟨fun x h => (by cases h; exact ⟨Tryz.func35, Tryz.call35⟩), aF37, aF42⟩
theorem aO43 : T.AllI (fun _ fn => fnOkB tab 0 fn = true) 32 35 tFuncs43 := ⟨fun x h => (by cases h; exact (show fnOkB tab 0 Tryz.f35 = true by kernel_rfl)), aO37, aO42⟩
theorem aF44 : T.AllI (fun n fn => Tryz.prog.funcs[n]? = some fn ∧ ∀ args w, (callFunc n args).run Tryz.prog w = .ok (.enter n args) w) 256 275 tFuncs44 := ⟨fun x h => (by cases h; exact ⟨Tryz.func275, Tryz.call275⟩), trivial, trivial⟩
theorem aO44 : T.AllI (fun _ fn => fnOkB tab 0 fn = true) 256 275 tFuncs44 := ⟨fun x h => (by cases h; exact (show fnOkB tab 0 Tryz.f275 = true by kernel_rfl)), trivial, trivial⟩
theorem aF45 : T.AllI (fun n fn => Tryz.prog.funcs[n]? = some fn ∧ ∀ args w, (callFunc n args).run Tryz.prog w = .ok (.enter n args) w) 128 147 tFuncs45 := ⟨fun x h => (by cases h; exact ⟨Tryz.func147, Tryz.call147⟩), aF44, trivial⟩
theorem aO45 : T.AllI (fun _ fn => fnOkB tab 0 fn = true) 128 147 tFuncs45 := ⟨fun x h => (by cases h; exact (show fnOkB tab 0 Tryz.f147 = true by kernel_rfl)), aO44, trivial⟩
theorem aF46 : T.AllI (fun n fn => Tryz.prog.funcs[n]? = some fn ∧ ∀ args w, (callFunc n args).run Tryz.prog w = .ok (.enter n args) w) 64 83 tFuncs46 := ⟨fun x h => (by cases h; exact ⟨Tryz.func83, Tryz.call83⟩), aF45, trivial⟩
theorem aO46 : T.AllI (fun _ fn => fnOkB tab 0 fn = true) 64 83 tFuncs46 := ⟨fun x h => (by cases h; exact (show fnOkB tab 0 Tryz.f83 = true by kernel_rfl)), aO45, trivial⟩
theorem aF47 : T.AllI (fun n fn => Tryz.prog.funcs[n]? = some fn ∧ ∀ args w, (callFunc n args).run Tryz.prog w = .ok (.enter n args) w) 256 307 tFuncs47 := ⟨fun x h => (by cases h; exact ⟨Tryz.func307, Tryz.call307⟩), trivial, trivial⟩
theorem aO47 : T.AllI (fun _ fn => fnOkB tab 0 fn = true) 256 307 tFuncs47 := ⟨fun x h => (by cases h; exact (show fnOkB tab 0 Tryz.f307 = true by kernel_rfl)), trivial, trivial⟩
theorem aF48 : T.AllI (fun n fn => Tryz.prog.funcs[n]? = some fn ∧ ∀ args w, (callFunc n args).run Tryz.prog w = .ok (.enter n args) w) 128 179 tFuncs48 := ⟨fun x h => (by cases h; exact ⟨Tryz.func179, Tryz.call179⟩), aF47, trivial⟩
theorem aO48 : T.AllI (fun _ fn => fnOkB tab 0 fn = true) 128 179 tFuncs48 := ⟨fun x h => (by cases h; exact (show fnOkB tab 0 Tryz.f179 = true by kernel_rfl)), aO47, trivial⟩
theorem aF49 : T.AllI (fun n fn => Tryz.prog.funcs[n]? = some fn ∧ ∀ args w, (callFunc n args).run Tryz.prog w = .ok (.enter n args) w) 64 115 tFuncs49 := ⟨fun x h => (by cases h), aF48, trivial⟩
theorem aO49 : T.AllI (fun _ fn => fnOkB tab 0 fn = true) 64 115 tFuncs49 := ⟨fun x h => (by cases h), aO48, trivial⟩
theorem aF50 : T.AllI (fun n fn => Tryz.prog.funcs[n]? = some fn ∧ ∀ args w, (callFunc n args).run Tryz.prog w = .ok (.enter n args) w) 32 51 tFuncs50 := ⟨fun x h => (by cases h; exact ⟨Tryz.func51, Tryz.call51⟩), aF46, aF49⟩
theorem aO50 : T.AllI (fun _ fn => fnOkB tab 0 fn = true) 32 51 tFuncs50 := ⟨fun x h => (by cases h; exact (show fnOkB tab 0 Tryz.f51 = true by kernel_rfl)), aO46, aO49⟩
theorem aF51 : T.AllI (fun n fn => Tryz.prog.funcs[n]? = some fn ∧ ∀ args w, (callFunc n args).run Tryz.prog w = .ok (.enter n args) w) 16 19 tFuncs51 := ⟨fun x h => (by cases h), aF43, aF50⟩
theorem aO51 : T.AllI (fun _ fn => fnOkB tab 0 fn = true) 16 19 tFuncs51 := ⟨fun x h => (by cases h), aO43, aO50⟩
theorem aF52 : T.AllI (fun n fn => Tryz.prog.funcs[n]? = some fn ∧ ∀ args w, (callFunc n args).run Tryz.prog w = .ok (.enter n args) w) 256 395 tFuncs52 := ⟨fun x h => (by cases h; exact ⟨Tryz.func395, Tryz.call395⟩), trivial, trivial⟩
theorem aO52 : T.AllI (fun _ fn => fnOkB tab 0 fn = true) 256 395 tFuncs52 := ⟨fun x h => (by cases h; exact (show fnOkB tab 0 Tryz.f395 = true by kernel_rfl)), trivial, trivial⟩
theorem aF53 : T.AllI (fun n fn => Tryz.prog.funcs[n]? = some fn ∧ ∀ args w, (callFunc n args).run Tryz.prog w = .ok (.enter n args) w) 128 139 tFuncs53 := ⟨fun x h => (by cases h; exact ⟨Tryz.func139, Tryz.call139⟩), trivial, aF52⟩
theorem aO53 : T.AllI (fun _ fn => fnOkB tab 0 fn = true) 128 139 tFuncs53 := ⟨fun x h => (by cases h; exact (show fnOkB tab 0 Tryz.f139 = true by kernel_rfl)), trivial, aO52⟩
theorem aF54 : T.AllI (fun n fn => Tryz.prog.funcs[n]? = some fn ∧ ∀ args w, (callFunc n args).run Tryz.prog w = .ok (.enter n args) w) 256 331 tFuncs54 := ⟨fun x h => (by cases h; exact ⟨Tryz.func331, Tryz.call331⟩), trivial, trivial⟩
theorem aO54 : T.AllI (fun _ fn => fnOkB tab 0 fn = true) 256 331 tFuncs54 := ⟨fun x h => (by cases h; exact (show fnOkB tab 0 Tryz.f331 = true by kernel_rfl)), trivial, trivial⟩
theorem aF55 : T.AllI (fun n fn => Tryz.prog.funcs[n]? = some fn ∧ ∀ args w, (callFunc n args).run Tryz.prog w = .ok (.enter n args) w) 256 459 tFuncs55 := ⟨fun x h => (by cases h; exact ⟨Tryz.func459, Tryz.call459⟩), trivial, trivial⟩
theorem aO55 : T.AllI (fun _ fn => fnOkB tab 0 fn = true) 256 459 tFuncs55 := ⟨fun x h => (by cases h; exact (show fnOkB tab 0 Tryz.f459 = true by kernel_rfl)), trivial, trivial⟩
theorem aF56 : T.AllI (fun n fn => Tryz.prog.funcs[n]? = some fn ∧ ∀ args w, (callFunc n args).run Tryz.prog w = .ok (.enter n args) w) 128 203 tFuncs56 := ⟨fun x h => (by cases h; exact ⟨Tryz.func203, Tryz.call203⟩), aF54, aF55⟩
theorem aO56 : T.AllI (fun _ fn => fnOkB tab 0 fn = true) 128 203 tFuncs56 := ⟨fun x h => (by cases h; exact (show fnOkB tab 0 Tryz.f203 = true by kernel_rfl)), aO54, aO55⟩
theorem aF57 : T.AllI (fun n fn => Tryz.prog.funcs[n]? = some fn ∧ ∀ args w, (callFunc n args).run Tryz.prog w = .ok (.enter n args) w) 64 75 tFuncs57 := ⟨fun x h => (by cases h; exact ⟨Tryz.func75, Tryz.call75⟩), aF53, aF56⟩
theorem aO57 : T.AllI (fun _ fn => fnOkB tab 0 fn = true) 64 75 tFuncs57 := ⟨fun x h => (by cases h; exact (show fnOkB tab 0 Tryz.f75 = true by kernel_rfl)), aO53, aO56⟩
theorem aF58 : T.AllI (fun n fn => Tryz.prog.funcs[n]? = some fn ∧ ∀ args w, (callFunc n args).run Tryz.prog w = .ok (.enter n args) w) 128 171 tFuncs58 := ⟨fun x h => (by cases h; exact ⟨Tryz.func171, Tryz.call171⟩), trivial, trivial⟩
theorem aO58 : T.AllI (fun _ fn => fnOkB tab 0 fn = true) 128 171 tFuncs58 := ⟨fun x h => (by cases h; exact (show fnOkB tab 0 Tryz.f171 = true by kernel_rfl)), trivial, trivial⟩
theorem aF59 : T.AllI (fun n fn => Tryz.prog.funcs[n]? = some fn ∧ ∀ args w, (callFunc n args).run Tryz.prog w = .ok (.enter n args) w) 64 107 tFuncs59 := ⟨fun x h => (by cases h), aF58, trivial⟩
theorem aO59 : T.AllI (fun _ fn => fnOkB tab 0 fn = true) 64 107 tFuncs59 := ⟨fun x h => (by cases h), aO58, trivial⟩
theorem aF60 : T.AllI (fun n fn => Tryz.prog.funcs[n]? = some fn ∧ ∀ args w, (callFunc n args).run Tryz.prog w = .ok (.enter n args) w) 32 43 tFuncs60 := ⟨fun x h => (by cases h; exact ⟨Tryz.func43, Tryz.call43⟩), aF57, aF59⟩
theorem aO60 : T.AllI (fun _ fn => fnOkB tab 0 fn = true) 32 43 tFuncs60 := ⟨fun x h => (by cases h; exact (show fnOkB tab 0 Tryz.f43 = true by kernel_rfl)), aO57, aO59⟩
theorem aF61 : T.AllI (fun n fn => Tryz.prog.funcs[n]? = some fn ∧ ∀ args w, (callFunc n args).run Tryz.prog w = .ok (.enter n args) w) 256 283 tFuncs61 := ⟨fun x h => (by cases h; exact ⟨Tryz.func283, Tryz.call283⟩), trivial, trivial⟩
theorem aO61 : T.AllI (fun _ fn => fnOkB tab 0 fn = true) 256 283 tFuncs61 := ⟨fun x h => (by cases h; exact (show fnOkB tab 0 Tryz.f283 = true by kernel_rfl)), trivial, trivial⟩
theorem aF62 : T.AllI (fun n fn => Tryz.prog.funcs[n]? = some fn ∧ ∀ args w, (callFunc n args).run Tryz.prog w = .ok (.enter n args) w) 128 155 tFuncs62 := ⟨fun x h => (by cases h; exact ⟨Tryz.func155, Tryz.call155⟩), aF61, trivial⟩
theorem aO62 : T.AllI (fun _ fn => fnOkB tab 0 fn = true) 128 155 tFuncs62 := ⟨fun x h => (by cases h; exact (show fnOkB tab 0 Tryz.f155 = true by kernel_rfl)), aO61, trivial⟩
theorem aF63 : T.AllI (fun n fn => Tryz.prog.funcs[n]? = some fn ∧ ∀ args w, (callFunc n args).run Tryz.prog w = .ok (.enter n args) w) 64 91 tFuncs63 := ⟨fun x h => (by cases h), aF62, trivial⟩
theorem aO63 : T.AllI (fun _ fn => fnOkB tab 0 fn = true) 64 91 tFuncs63 := ⟨fun x h => (by cases h), aO62, trivial⟩
theorem aF64 : T.AllI (fun n fn => Tryz.prog.funcs[n]? = some fn ∧ ∀ args w, (callFunc n args).run Tryz.prog w = .ok (.enter n args) w) 256 315 tFuncs64 := ⟨fun x h => (by cases h; exact ⟨Tryz.func315, Tryz.call315⟩), trivial, trivial⟩
theorem aO64 : T.AllI (fun _ fn => fnOkB tab 0 fn = true) 256 315 tFuncs64 := ⟨fun x h => (by cases h; exact (show fnOkB tab 0 Tryz.f315 = true by kernel_rfl)), trivial, trivial⟩
theorem aF65 : T.AllI (fun n fn => Tryz.prog.funcs[n]? = some fn ∧ ∀ args w, (callFunc n args).run Tryz.prog w = .ok (.enter n args) w) 128 187 tFuncs65 := ⟨fun x h => (by cases h), aF64, trivial⟩
theorem aO65 : T.AllI (fun _ fn => fnOkB tab 0 fn = true) 128 187 tFuncs65 := ⟨fun x h => (by cases h), aO64, trivial⟩
theorem aF66 : T.AllI (fun n fn => Tryz.prog.funcs[n]? = some fn ∧ ∀ args w, (callFunc n args).run Tryz.prog w = .ok (.enter n args) w) 64 123 tFuncs66 := ⟨fun x h => (by cases h), aF65, trivial⟩
theorem aO66 : T.AllI (fun _ fn => fnOkB tab 0 fn = true) 64 123 tFuncs66 := ⟨fun x h => (by cases h), aO65, trivial⟩
theorem aF67 : T.AllI (fun n fn => Tryz.prog.funcs[n]? = some fn ∧ ∀ args w, (callFunc n args).run Tryz.prog w = .ok (.enter n args) w) 32 59 tFuncs67 := ⟨fun x h => (by cases h; exact ⟨Tryz.func59, Tryz.call59⟩), aF63, aF66⟩
theorem aO67 : T.AllI (fun _ fn => fnOkB tab 0 fn = true) 32 59 tFuncs67 := ⟨fun x h => (by cases h; exact (show fnOkB tab 0 Tryz.f59 = true by kernel_rfl)), aO63, aO66⟩
theorem aF68 : T.AllI (fun n fn => Tryz.prog.funcs[n]? = some fn ∧ ∀ args w, (callFunc n args).run Tryz.prog w = .ok (.enter n args) w) 16 27 tFuncs68 := ⟨fun x h => (by cases h; exact ⟨Tryz.func27, Tryz.call27⟩), aF60, aF67⟩
theorem aO68 : T.AllI (fun _ fn => fnOkB tab 0 fn = true) 16 27 tFuncs68 := ⟨fun x h => (by cases h; exact (show fnOkB tab 0 Tryz.f27 = true by kernel_rfl)), aO60, aO67⟩
theorem aF69 : T.AllI (fun n fn => Tryz.prog.funcs[n]? = some fn ∧ ∀ args w, (callFunc n args).run Tryz.prog w = .ok (.enter n args) w) 8 11 tFuncs69 := ⟨fun x h => (by cases h; exact ⟨Tryz.func11, Tryz.call11⟩), aF51, aF68⟩
theorem aO69 : T.AllI (fun _ fn => fnOkB tab 0 fn = true) 8 11 tFuncs69 := ⟨fun x h => (by cases h; exact (show fnOkB tab 0 Tryz.f11 = true by kernel_rfl)), aO51, aO68⟩
theorem aF70 : T.AllI (fun n fn => Tryz.prog.funcs[n]? = some fn ∧ ∀ args w, (callFunc n args).run Tryz.prog w = .ok (.enter n args) w) 4 3 tFuncs70 := ⟨fun x h => (by cases h; exact ⟨Tryz.func3, Tryz.call3⟩), aF35, aF69⟩
theorem aO70 : T.AllI (fun _ fn => fnOkB tab 0 fn = true) 4 3 tFuncs70 := ⟨fun x h => (by cases h; exact (show fnOkB tab 0 Tryz.f3 = true by kernel_rfl)), aO35, aO69⟩
theorem aF71 : T.AllI (fun n fn => Tryz.prog.funcs[n]? = some fn ∧ ∀ args w, (callFunc n args).run Tryz.prog w = .ok (.enter n args) w) 128 129 tFuncs71 := ⟨fun x h => (by cases h; exact ⟨Tryz.func129, Tryz.call129⟩), trivial, trivial⟩
theorem aO71 : T.AllI (fun _ fn => fnOkB tab 0 fn = true) 128 129 tFuncs71 := ⟨fun x h => (by cases h; exact (show fnOkB tab 0 Tryz.f129 = true by kernel_rfl)), trivial, trivial⟩
theorem aF72 : T.AllI (fun n fn => Tryz.prog.funcs[n]? = some fn ∧ ∀ args w, (callFunc n args).run Tryz.prog w = .ok (.enter n args) w) 256 449 tFuncs72 := ⟨fun x h => (by cases h; exact ⟨Tryz.func449, Tryz.call449⟩), trivial, trivial⟩
theorem aO72 : T.AllI (fun _ fn => fnOkB tab 0 fn = true) 256 449 tFuncs72 := ⟨fun x h => (by cases h; exact (show fnOkB tab 0 Tryz.f449 = true by kernel_rfl)), trivial, trivial⟩
theorem aF73 : T.AllI (fun n fn => Tryz.prog.funcs[n]? = some fn ∧ ∀ args w, (callFunc n args).run Tryz.prog w = .ok (.enter n args) w) 128 193 tFuncs73 := ⟨fun x h => (by cases h; exact ⟨Tryz.func193, Tryz.call193⟩), trivial, aF72⟩
theorem aO73 : T.AllI (fun _ fn => fnOkB tab 0 fn = true) 128 193 tFuncs73 := ⟨fun x h => (by cases h; exact (show fnOkB tab 0 Tryz.f193 = true by kernel_rfl)), trivial, aO72⟩
theorem aF74 : T.AllI (fun n fn => Tryz.prog.funcs[n]? = some fn ∧ ∀ args w, (callFunc n args).run Tryz.prog w = .ok (.enter n args) w) 64 65 tFuncs74 := ⟨fun x h => (by cases h; exact ⟨Tryz.func65, Tryz.call65⟩), aF71, aF73⟩
theorem aO74 : T.AllI (fun _ fn => fnOkB tab 0 fn = true) 64 65 tFuncs74 := ⟨fun x h => (by cases h; exact (show fnOkB tab 0 Tryz.f65 = true by kernel_rfl)), aO71, aO73⟩
theorem aF75 : T.AllI (fun n fn => Tryz.prog.funcs[n]? = some fn ∧ ∀ args w, (callFunc n args).run Tryz.prog w = .ok (.enter n args) w) 256 289 tFuncs75 := ⟨fun x h => (by cases h; exact ⟨Tryz.func289, Tryz.call289⟩), trivial, trivial⟩
theorem aO75 : T.AllI (fun _ fn => fnOkB tab 0 fn = true) 256 289 tFuncs75 := ⟨fun x h => (by cases h; exact (show fnOkB tab 0 Tryz.f289 = true by kernel_rfl)), trivial, trivial⟩
theorem aF76 : T.AllI (fun n fn => Tryz.prog.funcs[n]? = some fn ∧ ∀ args w, (callFunc n args).run Tryz.prog w = .ok (.enter n args) w) 128 161 tFuncs76 := ⟨fun x h => (by cases h; exact ⟨Tryz.func161, Tryz.call161⟩), aF75, trivial⟩
theorem aO76 : T.AllI (fun _ fn => fnOkB tab 0 fn = true) 128 161 tFuncs76 := ⟨fun x h => (by cases h; exact (show fnOkB tab 0 Tryz.f161 = true by kernel_rfl)), aO75, trivial⟩
theorem aF77 : T.AllI (fun n fn => Tryz.prog.funcs[n]? = some fn ∧ ∀ args w, (callFunc n args).run Tryz.prog w = .ok (.enter n args) w) 128 225 tFuncs77 := ⟨fun x h => (by cases h; exact ⟨Tryz.func225, Tryz.call225⟩), trivial, trivial⟩
theorem aO77 : T.AllI (fun _ fn => fnOkB tab 0 fn = true) 128 225 tFuncs77 := ⟨fun x h => (by cases h; exact (show fnOkB tab 0 Tryz.f225 = true by kernel_rfl)), trivial, trivial⟩
theorem aF78 : T.AllI (fun n fn => Tryz.prog.funcs[n]? = some fn ∧ ∀ args w, (callFunc n args).run Tryz.prog w = .ok (.enter n args) w) 64 97 tFuncs78 := ⟨fun x h => (by cases h), aF76, aF77⟩
theorem aO78 : T.AllI (fun _ fn => fnOkB tab 0 fn = true) 64 97 tFuncs78 := ⟨fun x h => (by cases h), aO76, aO77⟩
theorem aF79 : T.AllI (fun n fn => Tryz.prog.funcs[n]? = some fn ∧ ∀ args w, (callFunc n args).run Tryz.prog w = .ok (.enter n args) w) 32 33 tFuncs79 := ⟨fun x h => (by cases h; exact ⟨Tryz.func33, Tryz.call33⟩), aF74, aF78⟩
theorem aO79 : T.AllI (fun _ fn => fnOkB tab 0 fn = true) 32 33 tFuncs79 := ⟨fun x h => (by cases h; exact (show fnOkB tab 0 Tryz.f33 = true by kernel_rfl)), aO74, aO78⟩
theorem aF80 : T.AllI (fun n fn => Tryz.prog.funcs[n]? = some fn ∧ ∀ args w, (callFunc n args).run Tryz.prog w = .ok (.enter n args) w) 256 401 tFuncs80 := ⟨fun x h => (by cases h; exact ⟨Tryz.func401, Tryz.call401⟩), trivial, trivial⟩
theorem aO80 : T.AllI (fun _ fn => fnOkB tab 0 fn = true) 256 401 tFuncs80 := ⟨fun x h => (by cases h; exact (show fnOkB tab 0 Tryz.f401 = true by kernel_rfl)), trivial, trivial⟩
theorem aF81 : T.AllI (fun n fn => Tryz.prog.funcs[n]? = some fn ∧ ∀ args w, (callFunc n args).run Tryz.prog w = .ok (.enter n args) w) 128 145 tFuncs81 := ⟨fun x h => (by cases h; exact ⟨Tryz.func145, Tryz.call145⟩), trivial, aF80⟩
theorem aO81 : T.AllI (fun _ fn => fnOkB tab 0 fn = true) 128 145 tFuncs81 := ⟨fun x h => (by cases h; exact (show fnOkB tab 0 Tryz.f145 = true by kernel_rfl)), trivial, aO80⟩
theorem aF82 : T.AllI (fun n fn => Tryz.prog.funcs[n]? = some fn ∧ ∀ args w, (callFunc n args).run Tryz.prog w = .ok (.enter n args) w) 256 337 tFuncs82 := ⟨fun x h => (by cases h; exact ⟨Tryz.func337, Tryz.call337⟩), trivial, trivial⟩
theorem aO82 : T.AllI (fun _ fn => fnOkB tab 0 fn = true) 256 337 tFuncs82 := ⟨fun x h => (by cases h; exact (show fnOkB tab 0 Tryz.f337 = true by kernel_rfl)), trivial, trivial⟩
theorem aF83 : T.AllI (fun n fn => Tryz.prog.funcs[n]? = some fn ∧ ∀ args w, (callFunc n args).run Tryz.prog w = .ok (.enter n args) w) 256 465 tFuncs83 := ⟨fun x h => (by cases h; exact ⟨Tryz.func465, Tryz.call465⟩), trivial, trivial⟩
theorem aO83 : T.AllI (fun _ fn => fnOkB tab 0 fn = true) 256 465 tFuncs83 := ⟨fun x h => (by cases h; exact (show fnOkB tab 0 Tryz.f465 = true by kernel_rfl)), trivial, trivial⟩
theorem aF84 : T.AllI (fun n fn => Tryz.prog.funcs[n]? = some fn ∧ ∀ args w, (callFunc n args).run Tryz.prog w = .ok (.enter n args) w) 128 209 tFuncs84 := ⟨fun x h => (by cases h), aF82, aF83⟩
theorem aO84 : T.AllI (fun _ fn => fnOkB tab 0 fn = true) 128 209 tFuncs84 := ⟨fun x h => (by cases h), aO82, aO83⟩
theorem aF85 : T.AllI (fun n fn => Tryz.prog.funcs[n]? = some fn ∧ ∀ args w, (callFunc n args).run Tryz.prog w = .ok (.enter n args) w) 64 81 tFuncs85 := ⟨fun x h => (by cases h; exact ⟨Tryz.func81, Tryz.call81⟩), aF81, aF84⟩
theorem aO85 : T.AllI (fun _ fn => fnOkB tab 0 fn = true) 64 81 tFuncs85 := ⟨fun x h => (by cases h; exact (show fnOkB tab 0 Tryz.f81 = true by kernel_rfl)), aO81, aO84⟩
theorem aF86 : T.AllI (fun n fn => Tryz.prog.funcs[n]? = some fn ∧ ∀ args w, (callFunc n args).run Tryz.prog w = .ok (.enter n args) w) 256 305 tFuncs86 := ⟨fun x h => (by cases h; exact ⟨Tryz.func305, Tryz.call305⟩), trivial, trivial⟩
theorem aO86 : T.AllI (fun _ fn => fnOkB tab 0 fn = true) 256 305 tFuncs86 := ⟨fun x h => (by cases h; exact (show fnOkB tab 0 Tryz.f305 = true by kernel_rfl)), trivial, trivial⟩
theorem aF87 : T.AllI (fun n fn => Tryz.prog.funcs[n]? = some fn ∧ ∀ args w, (callFunc n args).run Tryz.prog w = .ok (.enter n args) w) 128 177 tFuncs87 := ⟨fun x h => (by cases h; exact ⟨Tryz.func177, Tryz.call177⟩), aF86, trivial⟩
theorem aO87 : T.AllI (fun _ fn => fnOkB tab 0 fn = true) 128 177 tFuncs87 := ⟨fun x h => (by cases h; exact (show fnOkB tab 0 Tryz.f177 = true by kernel_rfl)), aO86, trivial⟩
theorem aF88 : T.AllI (fun n fn => Tryz.prog.funcs[n]? = some fn ∧ ∀ args w, (callFunc n args).run Tryz.prog w = .ok (.enter n args) w) 256 369 tFuncs88 := ⟨fun x h => (by cases h; exact ⟨Tryz.func369, Tryz.call369⟩), trivial, trivial⟩
theorem aO88 : T.AllI (fun _ fn => fnOkB tab 0 fn = true) 256 369 tFuncs88 := ⟨fun x h => (by cases h; exact (show fnOkB tab 0 Tryz.f369 = true by kernel_rfl)), trivial, trivial⟩
theorem aF89 : T.AllI (fun n fn => Tryz.prog.funcs[n]? = some fn ∧ ∀ args w, (callFunc n args).run Tryz.prog w = .ok (.enter n args) w) 128 241 tFuncs89 := ⟨fun x h => (by cases h), aF88, trivial⟩
theorem aO89 : T.AllI (fun _ fn => fnOkB tab 0 fn = true) 128 241 tFuncs89 := ⟨fun x h => (by cases h), aO88, trivial⟩
theorem aF90 : T.AllI (fun n fn => Tryz.prog.funcs[n]? = some fn ∧ ∀ args w, (callFunc n args).run Tryz.prog w = .ok (.enter n args) w) 64 113 tFuncs90 := ⟨fun x h => (by cases h), aF87, aF89⟩
theorem aO90 : T.AllI (fun _ fn => fnOkB tab 0 fn = true) 64 113 tFuncs90 := ⟨fun x h => (by cases h), aO87, aO89⟩
theorem aF91 : T.AllI (fun n fn => Tryz.prog.funcs[n]? = some fn ∧ ∀ args w, (callFunc n args).run Tryz.prog w = .ok (.enter n args) w) 32 49 tFuncs91 := ⟨fun x h => (by cases h), aF85, aF90⟩
theorem aO91 : T.AllI (fun _ fn => fnOkB tab 0 fn = true) 32 49 tFuncs91 := ⟨fun x h => (by cases h), aO85, aO90⟩
theorem aF92 : T.AllI (fun n fn => Tryz.prog.funcs[n]? = some fn ∧ ∀ args w, (callFunc n args).run Tryz.prog w = .ok (.enter n args) w) 16 17 tFuncs92 := ⟨fun x h => (by cases h; exact ⟨Tryz.func17, Tryz.call17⟩), aF79, aF91⟩
theorem aO92 : T.AllI (fun _ fn => fnOkB tab 0 fn = true) 16 17 tFuncs92 := ⟨fun x h => (by cases h; exact (show fnOkB tab 0 Tryz.f17 = true by kernel_rfl)), aO79, aO91⟩
theorem aF93 : T.AllI (fun n fn => Tryz.prog.funcs[n]? = some fn ∧ ∀ args w, (callFunc n args).run Tryz.prog w = .ok (.enter n args) w) 256 393 tFuncs93 := ⟨fun x h => (by cases h; exact ⟨Tryz.func393, Tryz.call393⟩), trivial, trivial⟩
theorem aO93 : T.AllI (fun _ fn => fnOkB tab 0 fn = true) 256 393 tFuncs93 := ⟨fun x h => (by cases h; exact (show fnOkB tab 0 Tryz.f393 = true by kernel_rfl)), trivial, trivial⟩
theorem aF94 : T.AllI (fun n fn => Tryz.prog.funcs[n]? = some fn ∧ ∀ args w, (callFunc n args).run Tryz.prog w = .ok (.enter n args) w) 128 137 tFuncs94 := ⟨fun x h => (by cases h; exact ⟨Tryz.func137, Tryz.call137⟩), trivial, aF93⟩
theorem aO94 : T.AllI (fun _ fn => fnOkB tab 0 fn = true) 128 137 tFuncs94 := ⟨fun x h => (by cases h; exact (show fnOkB tab 0 Tryz.f137 = true by kernel_rfl)), trivial, aO93⟩
theorem aF95 : T.AllI (fun n fn => Tryz.prog.funcs[n]? = some fn ∧ ∀ args w, (callFunc n args).run Tryz.prog w = .ok (.enter n args) w) 256 329 tFuncs95 := ⟨fun x h => (by cases h; exact ⟨Tryz.func329, Tryz.call329⟩), trivial, trivial⟩
theorem aO95 : T.AllI (fun _ fn => fnOkB tab 0 fn = true) 256 329 tFuncs95 := ⟨fun x h => (by cases h; exact (show fnOkB tab 0 Tryz.f329 = true by kernel_rfl)), trivial, trivial⟩
theorem aF96 : T.AllI (fun n fn => Tryz.prog.funcs[n]? = some fn ∧ ∀ args w, (callFunc n args).run Tryz.prog w = .ok (.enter n args) w) 128 201 tFuncs96 := ⟨fun x h => (by cases h), aF95, trivial⟩
theorem aO96 : T.AllI (fun _ fn => fnOkB tab 0 fn = true) 128 201 tFuncs96 := ⟨fun x h => (by cases h), aO95, trivial⟩
theorem aF97 : T.AllI (fun n fn => Tryz.prog.funcs[n]? = some fn ∧ ∀ args w, (callFunc n args).run Tryz.prog w = .ok (.enter n args) w) 64 73 tFuncs97 := ⟨fun x h => (by cases h), aF94, aF96⟩
theorem aO97 : T.AllI (fun _ fn => fnOkB tab 0 fn = true) 64 73 tFuncs97 := ⟨fun x h => (by cases h), aO94, aO96⟩
theorem aF98 : T.AllI (fun n fn => Tryz.prog.funcs[n]? = some fn ∧ ∀ args w, (callFunc n args).run Tryz.prog w = .ok (.enter n args) w) 256 297 tFuncs98 := ⟨fun x h => (by cases h; exact ⟨Tryz.func297, Tryz.call297⟩), trivial, trivial⟩
theorem aO98 : T.AllI (fun _ fn => fnOkB tab 0 fn = true) 256 297 tFuncs98 := ⟨fun x h => (by cases h; exact (show fnOkB tab 0 Tryz.f297 = true by kernel_rfl)), trivial, trivial⟩
theorem aF99 : T.AllI (fun n fn => Tryz.prog.funcs[n]? = some fn ∧ ∀ args w, (callFunc n args).run Tryz.prog w = .ok (.enter n args) w) 128 169 tFuncs99 := ⟨fun x h => (by cases h; exact ⟨Tryz.func169, Tryz.call169⟩), aF98, trivial⟩
theorem aO99 : T.AllI (fun _ fn => fnOkB tab 0 fn = true) 128 169 tFuncs99 := ⟨fun x h => (by cases h; exact (show fnOkB tab 0 Tryz.f169 = true by kernel_rfl)), aO98, trivial⟩
theorem aF100 : T.AllI (fun n fn => Tryz.prog.funcs[n]? = some fn ∧ ∀ args w, (callFunc n args).run Tryz.prog w = .ok (.enter n args) w) 128 233 tFuncs100 := ⟨fun x h => (by cases h; exact ⟨Tryz.func233, Tryz.call233⟩), trivial, trivial⟩
theorem aO100 : T.AllI (fun _ fn => fnOkB tab 0 fn = true) 128 233 tFuncs100 := ⟨fun x h => (by cases h; exact (show fnOkB tab 0 Tryz.f233 = true by kernel_rfl)), trivial, trivial⟩
theorem aF101 : T.AllI (fun n fn => Tryz.prog.funcs[n]? = some fn ∧ ∀ args w, (callFunc n args).run Tryz.prog w = .ok (.enter n args) w) 64 105 tFuncs101 := ⟨fun x h => (by cases h), aF99, aF100⟩
theorem aO101 : T.AllI (fun _ fn => fnOkB tab 0 fn = true) 64 105 tFuncs101 := ⟨fun x h => (by cases h), aO99, aO100⟩
theorem aF102 : T.AllI (fun n fn => Tryz.prog.funcs[n]? = some fn ∧ ∀ args w, (callFunc n args).run Tryz.prog w = .ok (.enter n args) w) 32 41 tFuncs102 := ⟨fun x h => (by cases h; exact ⟨Tryz.func41, Tryz.call41⟩), aF97, aF101⟩
theorem aO102 : T.AllI (fun _ fn => fnOkB tab 0 fn = true) 32 41 tFuncs102 := ⟨fun x h => (by cases h; exact (show fnOkB tab 0 Tryz.f41 = true by kernel_rfl)), aO97, aO101⟩
theorem aF103 : T.AllI (fun n fn => Tryz.prog.funcs[n]? = some fn ∧ ∀ args w, (callFunc n args).run Tryz.prog w = .ok (.enter n args) w) 256 281 tFuncs103 := ⟨fun x h => (by cases h; exact ⟨Tryz.func281, Tryz.call281⟩), trivial, trivial⟩
theorem aO103 : T.AllI (fun _ fn => fnOkB tab 0 fn = true) 256 281 tFuncs103 := ⟨fun x h => (by cases h; exact (show fnOkB tab 0 Tryz.f281 = true by kernel_rfl)), trivial, trivial⟩
theorem aF104 : T.AllI (fun n fn => Tryz.prog.funcs[n]? = some fn ∧ ∀ args w, (callFunc n args).run Tryz.prog w = .ok (.enter n args) w) 256 409 tFuncs104 := ⟨fun x h => (by cases h; exact ⟨Tryz.func409, Tryz.call409⟩), trivial, trivial⟩
theorem aO104 : T.AllI (fun _ fn => fnOkB tab 0 fn = true) 256 409 tFuncs104 := ⟨fun x h => (by cases h; exact (show fnOkB tab 0 Tryz.f409 = true by kernel_rfl)), trivial, trivial⟩
theorem aF105 : T.AllI (fun n fn => Tryz.prog.funcs[n]? = some fn ∧ ∀ args w, (callFunc n args).run Tryz.prog w = .ok (.enter n args) w) 128 153 tFuncs105 := ⟨fun x h => (by cases h; exact ⟨Tryz.func153, Tryz.call153⟩), aF103, aF104⟩
theorem aO105 : T.AllI (fun _ fn => fnOkB tab 0 fn = true) 128 153 tFuncs105 := ⟨fun x h => (by cases h; exact (show fnOkB tab 0 Tryz.f153 = true by kernel_rfl)), aO103, aO104⟩
theorem aF106 : T.AllI (fun n fn => Tryz.prog.funcs[n]? = some fn ∧ ∀ args w, (callFunc n args).run Tryz.prog w = .ok (.enter n args) w) 64 89 tFuncs106 := ⟨fun x h => (by cases h; exact ⟨Tryz.func89, Tryz.call89⟩), aF105, trivial⟩
theorem aO106 : T.AllI (fun _ fn => fnOkB tab 0 fn = true) 64 89 tFuncs106 := ⟨fun x h => (by cases h; exact (show fnOkB tab 0 Tryz.f89 = true by kernel_rfl)), aO105, trivial⟩
theorem aF107 : T.AllI (fun n fn => Tryz.prog.funcs[n]? = some fn ∧ ∀ args w, (callFunc n args).run Tryz.prog w = .ok (.enter n args) w) 32 57 tFuncs107 := ⟨fun x h => (by cases h; exact ⟨Tryz.func57, Tryz.call57⟩), aF106, trivial⟩
theorem aO107 : T.AllI (fun _ fn => fnOkB tab 0 fn = true) 32 57 tFuncs107 := ⟨fun x h => (by cases h; exact (show fnOkB tab 0 Tryz.f57 = true by kernel_rfl)), aO106, trivial⟩
theorem aF108 : T.AllI (fun n fn => Tryz.prog.funcs[n]? = some fn ∧ ∀ args w, (callFunc n args).run Tryz.prog w = .ok (.enter n args) w) 16 25 tFuncs108 := ⟨fun x h => (by cases h; exact ⟨Tryz.func25, Tryz.call25⟩), aF102, aF107⟩
theorem aO108 : T.AllI (fun _ fn => fnOkB tab 0 fn = true) 16 25 tFuncs108 := ⟨fun x h => (by cases h; exact (show fnOkB tab 0 Tryz.f25 = true by kernel_rfl)), aO102, aO107⟩
theorem aF109 : T.AllI (fun n fn => Tryz.prog.funcs[n]? = some fn ∧ ∀ args w, (callFunc n args).run Tryz.prog w = .ok (.enter n args) w) 8 9 tFuncs109 := ⟨fun x h => (by cases h; exact ⟨Tryz.func9, Tryz.call9⟩), aF92, aF108⟩
theorem aO109 : T.AllI (fun _ fn => fnOkB tab 0 fn = true) 8 9 tFuncs109 := ⟨fun x h => (by cases h; exact (show fnOkB tab 0 Tryz.f9 = true by kernel_rfl)), aO92, aO108⟩
theorem aF110 : T.AllI (fun n fn => Tryz.prog.funcs[n]? = some fn ∧ ∀ args w, (callFunc n args).run Tryz.prog w = .ok (.enter n args) w) 256 389 tFuncs110 := ⟨fun x h => (by cases h; exact ⟨Tryz.func389, Tryz.call389⟩), trivial, trivial⟩
theorem aO110 : T.AllI (fun _ fn => fnOkB tab 0 fn = true) 256 389 tFuncs110 := ⟨fun x h => (by cases h; exact (show fnOkB tab 0 Tryz.f389 = true by kernel_rfl)), trivial, trivial⟩
theorem aF111 : T.AllI (fun n fn => Tryz.prog.funcs[n]? = some fn ∧ ∀ args w, (callFunc n args).run Tryz.prog w = .ok (.enter n args) w) 128 133 tFuncs111 := ⟨fun x h => (by cases h), trivial, aF110⟩
theorem aO111 : T.AllI (fun _ fn => fnOkB tab 0 fn = true) 128 133 tFuncs111 := ⟨fun x h => (by cases h), trivial, aO110⟩
theorem aF112 : T.AllI (fun n fn => Tryz.prog.funcs[n]? = some fn ∧ ∀ args w, (callFunc n args).run Tryz.prog w = .ok (.enter n args) w) 64 69 tFuncs112 := ⟨fun x h => (by cases h; exact ⟨Tryz.func69, Tryz.call69⟩), aF111, trivial⟩
theorem aO112 : T.AllI (fun _ fn => fnOkB tab 0 fn = true) 64 69 tFuncs112 := ⟨fun x h => (by cases h; exact (show fnOkB tab 0 Tryz.f69 = true by kernel_rfl)), aO111, trivial⟩
theorem aF113 : T.AllI (fun n fn => Tryz.prog.funcs[n]? = some fn ∧ ∀ args w, (callFunc n args).run Tryz.prog w = .ok (.enter n args) w) 256 293 tFuncs113 := ⟨fun x h => (by cases h; exact ⟨Tryz.func293, Tryz.call293⟩), trivial, trivial⟩
theorem aO113 : T.AllI (fun _ fn => fnOkB tab 0 fn = true) 256 293 tFuncs113 := ⟨fun x h => (by cases h; exact (show fnOkB tab 0 Tryz.f293 = true by kernel_rfl)), trivial, trivial⟩
theorem aF114 : T.AllI (fun n fn => Tryz.prog.funcs[n]? = some fn ∧ ∀ args w, (callFunc n args).run Tryz.prog w = .ok (.enter n args) w) 128 165 tFuncs114 := ⟨fun x h => (by cases h), aF113, trivial⟩
theorem aO114 : T.AllI (fun _ fn => fnOkB tab 0 fn = true) 128 165 tFuncs114 := ⟨fun x h => (by cases h), aO113, trivial⟩
theorem aF115 : T.AllI (fun n fn => Tryz.prog.funcs[n]? = some fn ∧ ∀ args w, (callFunc n args).run Tryz.prog w = .ok (.enter n args) w) 128 229 tFuncs115 := ⟨fun x h => (by cases h; exact ⟨Tryz.func229, Tryz.call229⟩), trivial, trivial⟩
theorem aO115 : T.AllI (fun _ fn => fnOkB tab 0 fn = true) 128 229 tFuncs115 := ⟨fun x h => (by cases h; exact (show fnOkB tab 0 Tryz.f229 = true by kernel_rfl)), trivial, trivial⟩
theorem aF116 : T.AllI (fun n fn => Tryz.prog.funcs[n]? = some fn ∧ ∀ args w, (callFunc n args).run Tryz.prog w = .ok (.enter n args) w) 64 101 tFuncs116 := ⟨fun x h => (by cases h; exact ⟨Tryz.func101, Tryz.call101⟩), aF114, aF115⟩
theorem aO116 : T.AllI (fun _ fn => fnOkB tab 0 fn = true) 64 101 tFuncs116 := ⟨fun x h => (by cases h; exact (show fnOkB tab 0 Tryz.f101 = true by kernel_rfl)), aO114, aO115⟩
theorem aF117 : T.AllI (fun n fn => Tryz.prog.funcs[n]? = some fn ∧ ∀ args w, (callFunc n args).run Tryz.prog w = .ok (.enter n args) w) 32 37 tFuncs117 := ⟨fun x h => (by cases h; exact ⟨Tryz.func37, Tryz.call37⟩), aF112, aF116⟩
theorem aO117 : T.AllI (fun _ fn => fnOkB tab 0 fn = true) 32 37 tFuncs117 := ⟨fun x h => (by cases h; exact (show fnOkB tab 0 Tryz.f37 = true by kernel_rfl)), aO112, aO116⟩
theorem aF118 : T.AllI (fun n fn => Tryz.prog.funcs[n]? = some fn ∧ ∀ args w, (callFunc n args).run Tryz.prog w = .ok (.enter n args) w) 256 405 tFuncs118 := ⟨fun x h => (by cases h; exact ⟨Tryz.func405, Tryz.call405⟩), trivial, trivial⟩
theorem aO118 : T.AllI (fun _ fn => fnOkB tab 0 fn = true) 256 405 tFuncs118 := ⟨fun x h => (by cases h; exact (show fnOkB tab 0 Tryz.f405 = true by kernel_rfl)), trivial, trivial⟩
theorem aF119 : T.AllI (fun n fn => Tryz.prog.funcs[n]? = some fn ∧ ∀ args w, (callFunc n args).run Tryz.prog w = .ok (.enter n args) w) 128 149 tFuncs119 := ⟨fun x h => (by cases h; exact ⟨Tryz.func149, Tryz.call149⟩), trivial, aF118⟩
theorem aO119 : T.AllI (fun _ fn => fnOkB tab 0 fn = true) 128 149 tFuncs119 := ⟨fun x h => (by cases h; exact (show fnOkB tab 0 Tryz.f149 = true by kernel_rfl)), trivial, aO118⟩
theorem aF120 : T.AllI (fun n fn => Tryz.prog.funcs[n]? = some fn ∧ ∀ args w, (callFunc n args).run Tryz.prog w = .ok (.enter n args) w) 64 85 tFuncs120 := ⟨fun x h => (by cases h; exact ⟨Tryz.func85, Tryz.call85⟩), aF119, trivial⟩
theorem aO120 : T.AllI (fun _ fn => fnOkB tab 0 fn = true) 64 85 tFuncs120 := ⟨fun x h => (by cases h; exact (show fnOkB tab 0 Tryz.f85 = true by kernel_rfl)), aO119, trivial⟩
theorem aF121 : T.AllI (fun n fn => Tryz.prog.funcs[n]? = some fn ∧ ∀ args w, (callFunc n args).run Tryz.prog w = .ok (.enter n args) w) 32 53 tFuncs121 := ⟨fun x h => (by cases h; exact ⟨Tryz.func53, Tryz.call53⟩), aF120, trivial⟩
theorem aO121 : T.AllI (fun _ fn => fnOkB tab 0 fn = true) 32 53 tFuncs121 := ⟨fun x h => (by cases h; exact (show fnOkB tab 0 Tryz.f53 = true by kernel_rfl)), aO120, trivial⟩
theorem aF122 : T.AllI (fun n fn => Tryz.prog.funcs[n]? = some fn ∧ ∀ args w, (callFunc n args).run Tryz.prog w = .ok (.enter n args) w) 16 21 tFuncs122 := ⟨fun x h => (by cases h; exact ⟨Tryz.func21, Tryz.call21⟩), aF117, aF121⟩
theorem aO122 : T.AllI (fun _ fn => fnOkB tab 0 fn = true) 16 21 tFuncs122 := ⟨fun x h => (by cases h; exact (show fnOkB tab 0 Tryz.f21 = true by kernel_rfl)), aO117, aO121⟩
theorem aF123 : T.AllI (fun n fn => Tryz.prog.funcs[n]? = some fn ∧ ∀ args w, (callFunc n args).run Tryz.prog w = .ok (.enter n args) w) 256 397 tFuncs123 := ⟨fun x h => (by cases h; exact ⟨Tryz.func397, Tryz.call397⟩), trivial, trivial⟩
theorem aO123 : T.AllI (fun _ fn => fnOkB tab 0 fn = true) 256 397 tFuncs123 := ⟨fun x h => (by cases h; exact (show fnOkB tab 0 Tryz.f397 = true by kernel_rfl)), trivial, trivial⟩
theorem aF124 : T.AllI (fun n fn => Tryz.prog.funcs[n]? = some fn ∧ ∀ args w, (callFunc n args).run Tryz.prog w = .ok (.enter n args) w) 128 141 tFuncs124 := ⟨fun x h => (by cases h; exact ⟨Tryz.func141, Tryz.call141⟩), trivial, aF123⟩
theorem aO124 : T.AllI (fun _ fn => fnOkB tab 0 fn = true) 128 141 tFuncs124 := ⟨fun x h => (by cases h; exact (show fnOkB tab 0 Tryz.f141 = true by kernel_rfl)), trivial, aO123⟩
theorem aF125 : T.AllI (fun n fn => Tryz.prog.funcs[n]? = some fn ∧ ∀ args w, (callFunc n args).run Tryz.prog w = .ok (.enter n args) w) 256 333 tFuncs125 := ⟨fun x h => (by cases h; exact ⟨Tryz.func333, Tryz.call333⟩), trivial, trivial⟩
theorem aO125 : T.AllI (fun _ fn => fnOkB tab 0 fn = true) 256 333 tFuncs125 := ⟨fun x h => (by cases h; exact (show fnOkB tab 0 Tryz.f333 = true by kernel_rfl)), trivial, trivial⟩
theorem aF126 : T.AllI (fun n fn => Tryz.prog.funcs[n]? = some fn ∧ ∀ args w, (callFunc n args).run Tryz.prog w = .ok (.enter n args) w) 128 205 tFuncs126 := ⟨fun x h => (by cases h; exact ⟨Tryz.func205, Tryz.call205⟩), aF125, trivial⟩
theorem aO126 : T.AllI (fun _ fn => fnOkB tab 0 fn = true) 128 205 tFuncs126 := ⟨fun x h => (by cases h; exact (show fnOkB tab 0 Tryz.f205 = true by kernel_rfl)), aO125, trivial⟩
theorem aF127 : T.AllI (fun n fn => Tryz.prog.funcs[n]? = some fn ∧ ∀ args w, (callFunc n args).run Tryz.prog w = .ok (.enter n args) w) 64 77 tFuncs127 := ⟨fun x h => (by cases h; exact ⟨Tryz.func77, Tryz.call77⟩), aF124, aF126⟩
theorem aO127 : T.AllI (fun _ fn => fnOkB tab 0 fn = true) 64 77 tFuncs127 := ⟨fun x h => (by cases h; exact (show fnOkB tab 0 Tryz.f77 = true by kernel_rfl)), aO124, aO126⟩
theorem aF128 : T.AllI (fun n fn => Tryz.prog.funcs[n]? = some fn ∧ ∀ args w, (callFunc n args).run Tryz.prog w = .ok (.enter n args) w) 128 173 tFuncs128 := ⟨fun x h => (by cases h; exact ⟨Tryz.func173, Tryz.call173⟩), trivial, trivial⟩
theorem aO128 : T.AllI (fun _ fn => fnOkB tab 0 fn = true) 128 173 tFuncs128 := ⟨fun x h => (by cases h; exact (show fnOkB tab 0 Tryz.f173 = true by kernel_rfl)), trivial, trivial⟩
theorem aF129 : T.AllI (fun n fn => Tryz.prog.funcs[n]? = some fn ∧ ∀ args w, (callFunc n args).run Tryz.prog w = .ok (.enter n args) w) 128 237 tFuncs129 := ⟨fun x h => (by cases h; exact ⟨Tryz.func237, Tryz.call237⟩), trivial, trivial⟩
theorem aO129 : T.AllI (fun _ fn => fnOkB tab 0 fn = true) 128 237 tFuncs129 := ⟨fun x h => (by cases h; exact (show fnOkB tab 0 Tryz.f237 = true by kernel_rfl)), trivial, trivial⟩
theorem aF130 : T.AllI (fun n fn => Tryz.prog.funcs[n]? = some fn ∧ ∀ args w, (callFunc n args).run Tryz.prog w = .ok (.enter n args) w) 64 109 tFuncs130 := ⟨fun x h => (by cases h), aF128, aF129⟩
theorem aO130 : T.AllI (fun _ fn => fnOkB tab 0 fn = true) 64 109 tFuncs130 := ⟨fun x h => (by cases h), aO128, aO129⟩
theorem aF131 : T.AllI (fun n fn => Tryz.prog.funcs[n]? = some fn ∧ ∀ args w, (callFunc n args).run Tryz.prog w = .ok (.enter n args) w) 32 45 tFuncs131 := ⟨fun x h => (by cases h; exact ⟨Tryz.func45, Tryz.call45⟩), aF127, aF130⟩
theorem aO131 : T.AllI (fun _ fn => fnOkB tab 0 fn = true) 32 45 tFuncs131 := ⟨fun x h => (by cases h; exact (show fnOkB tab 0 Tryz.f45 = true by kernel_rfl)), aO127, aO130⟩
theorem aF132 : T.AllI (fun n fn => Tryz.prog.funcs[n]? = some fn ∧ ∀ args w, (callFunc n args).run Tryz.prog w = .ok (.enter n args) w) 128 157 tFuncs132 := ⟨fun x h => (by cases h; exact ⟨Tryz.func157, Tryz.call157⟩), trivial, trivial⟩
theorem aO132 : T.AllI (fun _ fn => fnOkB tab 0 fn = true) 128 157 tFuncs132 := ⟨fun x h => (by cases h; exact (show fnOkB tab 0 Tryz.f157 = true by kernel_rfl)), trivial, trivial⟩
theorem aF133 : T.AllI (fun n fn => Tryz.prog.funcs[n]? = some fn ∧ ∀ args w, (callFunc n args).run Tryz.prog w = .ok (.enter n args) w) 128 221 tFuncs133 := ⟨fun x h => (by cases h; exact ⟨Tryz.func221, Tryz.call221⟩), trivial, trivial⟩
theorem aO133 : T.AllI (fun _ fn => fnOkB tab 0 fn = true) 128 221 tFuncs133 := ⟨fun x h => (by cases h; exact (show fnOkB tab 0 Tryz.f221 = true by kernel_rfl)), trivial, trivial⟩
theorem aF134 : T.AllI (fun n fn => Tryz.prog.funcs[n]? = some fn ∧ ∀ args w, (callFunc n args).run Tryz.prog w = .ok (.enter n args) w) 64 93 tFuncs134 := ⟨fun x h => (by cases h; exact ⟨Tryz.func93, Tryz.call93⟩), aF132, aF133⟩
theorem aO134 : T.AllI (fun _ fn => fnOkB tab 0 fn = true) 64 93 tFuncs134 := ⟨fun x h => (by cases h; exact (show fnOkB tab 0 Tryz.f93 = true by kernel_rfl)), aO132, aO133⟩
theorem aF135 : T.AllI (fun n fn => Tryz.prog.funcs[n]? = some fn ∧ ∀ args w, (callFunc n args).run Tryz.prog w = .ok (.enter n args) w) 256 317 tFuncs135 := ⟨fun x h => (by cases h; exact ⟨Tryz.func317, Tryz.call317⟩), trivial, trivial⟩
theorem aO135 : T.AllI (fun _ fn => fnOkB tab 0 fn = true) 256 317 tFuncs135 := ⟨fun x h => (by cases h; exact (show fnOkB tab 0 Tryz.f317 = true by kernel_rfl)), trivial, trivial⟩
theorem aF136 : T.AllI (fun n fn => Tryz.prog.funcs[n]? = some fn ∧ ∀ args w, (callFunc n args).run Tryz.prog w = .ok (.enter n args) w) 128 189 tFuncs136 := ⟨fun x h => (by cases h), aF135, trivial⟩
theorem aO136 : T.AllI (fun _ fn => fnOkB tab 0 fn = true) 128 189 tFuncs136 := ⟨fun x h => (by cases h), aO135, trivial⟩
theorem aF137 : T.AllI (fun n fn => Tryz.prog.funcs[n]? = some fn ∧ ∀ args w, (callFunc n args).run Tryz.prog w = .ok (.enter n args) w) 256 381 tFuncs137 := ⟨fun x h => (by cases h; exact ⟨Tryz.func381, Tryz.call381⟩), trivial, trivial⟩
theorem aO137 : T.AllI (fun _ fn => fnOkB tab 0 fn = true) 256 381 tFuncs137 := ⟨fun x h => (by cases h; exact (show fnOkB tab 0 Tryz.f381 = true by kernel_rfl)), trivial, trivial⟩
theorem aF138 : T.AllI (fun n fn => Tryz.prog.funcs[n]? = some fn ∧ ∀ args w, (callFunc n args).run Tryz.prog w = .ok (.enter n args) w) 128 253 tFuncs138 := ⟨fun x h => (by cases h; exact ⟨Tryz.func253, Tryz.call253⟩), aF137, trivial⟩
theorem aO138 : T.AllI (fun _ fn => fnOkB tab 0 fn = true) 128 253 tFuncs138 := ⟨fun x h => (by cases h; exact (show fnOkB tab 0 Tryz.f253 = true by kernel_rfl)), aO137, trivial⟩
theorem aF139 : T.AllI (fun n fn => Tryz.prog.funcs[n]? = some fn ∧ ∀ args w, (callFunc n args).run Tryz.prog w = .ok (.enter n args) w) 64 125 tFuncs139 := ⟨fun x h => (by cases h), aF136, aF138⟩
theorem aO139 : T.AllI (fun _ fn => fnOkB tab 0 fn = true) 64 125 tFuncs139 := ⟨fun x h => (by cases h), aO136, aO138⟩
theorem aF140 : T.AllI (fun n fn => Tryz.prog.funcs[n]? = some fn ∧ ∀ args w, (callFunc n args).run Tryz.prog w = .ok (.enter n args) w) 32 61 tFuncs140 := ⟨fun x h => (by cases h; exact ⟨Tryz.func61, Tryz.call61⟩), aF134, aF139⟩
theorem aO140 : T.AllI (fun _ fn => fnOkB tab 0 fn = true) 32 61 tFuncs140 := ⟨fun x h => (by cases h; exact (show fnOkB tab 0 Tryz.f61 = true by kernel_rfl)), aO134, aO139⟩
theorem aF141 : T.AllI (fun n fn => Tryz.prog.funcs[n]? = some fn ∧ ∀ args w, (callFunc n args).run Tryz.prog w = .ok (.enter n args) w) 16 29 tFuncs141 := ⟨fun x h => (by cases h; exact ⟨Tryz.func29, Tryz.call29⟩), aF131, aF140⟩
theorem aO141 : T.AllI (fun _ fn => fnOkB tab 0 fn = true) 16 29 tFuncs141 := ⟨fun x h => (by cases h; exact (show fnOkB tab 0 Tryz.f29 = true by kernel_rfl)), aO131, aO140⟩
theorem aF142 : T.AllI (fun n fn => Tryz.prog.funcs[n]? = some fn ∧ ∀ args w, (callFunc n args).run Tryz.prog w = .ok (.enter n args) w) 8 13 tFuncs142 := ⟨fun x h => (by cases h; exact ⟨Tryz.func13, Tryz.call13⟩), aF122, aF141⟩
theorem aO142 : T.AllI (fun _ fn => fnOkB tab 0 fn = true) 8 13 tFuncs142 := ⟨fun x h => (by cases h; exact (show fnOkB tab 0 Tryz.f13 = true by kernel_rfl)), aO122, aO141⟩
theorem aF143 : T.AllI (fun n fn => Tryz.prog.funcs[n]? = some fn ∧ ∀ args w, (callFunc n args).run Tryz.prog w = .ok (.enter n args) w) 4 5 tFuncs143 := ⟨fun x h => (by cases h; exact ⟨Tryz.func5, Tryz.call5⟩), aF109, aF142⟩
theorem aO143 : T.AllI (fun _ fn => fnOkB tab 0 fn = true) 4 5 tFuncs143 := ⟨fun x h => (by cases h; exact (show fnOkB tab 0 Tryz.f5 = true by kernel_rfl)), aO109, aO142⟩
theorem aF144 : T.AllI (fun n fn => Tryz.prog.funcs[n]? = some fn ∧ ∀ args w, (callFunc n args).run Tryz.prog w = .ok (.enter n args) w) 2 1 tFuncs144 := ⟨fun x h => (by cases h), aF70, aF143⟩
theorem aO144 : T.AllI (fun _ fn => fnOkB tab 0 fn = true) 2 1 tFuncs144 := ⟨fun x h => (by cases h), aO70, aO143⟩
theorem aF145 : T.AllI (fun n fn => Tryz.prog.funcs[n]? = some fn ∧ ∀ args w, (callFunc n args).run Tryz.prog w = .ok (.enter n args) w) 256 448 tFuncs145 := ⟨fun x h => (by cases h; exact ⟨Tryz.func448, Tryz.call448⟩), trivial, trivial⟩
theorem aO145 : T.AllI (fun _ fn => fnOkB tab 0 fn = true) 256 448 tFuncs145 := ⟨fun x h => (by cases h; exact (show fnOkB tab 0 Tryz.f448 = true by kernel_rfl)), trivial, trivial⟩
theorem aF146 : T.AllI (fun n fn => Tryz.prog.funcs[n]? = some fn ∧ ∀ args w, (callFunc n args).run Tryz.prog w = .ok (.enter n args) w) 128 192 tFuncs146 := ⟨fun x h => (by cases h; exact ⟨Tryz.func192, Tryz.call192⟩), trivial, aF145⟩
theorem aO146 : T.AllI (fun _ fn => fnOkB tab 0 fn = true) 128 192 tFuncs146 := ⟨fun x h => (by cases h; exact (show fnOkB tab 0 Tryz.f192 = true by kernel_rfl)), trivial, aO145⟩
theorem aF147 : T.AllI (fun n fn => Tryz.prog.funcs[n]? = some fn ∧ ∀ args w, (callFunc n args).run Tryz.prog w = .ok (.enter n args) w) 64 64 tFuncs147 := ⟨fun x h => (by cases h; exact ⟨Tryz.func64, Tryz.call64⟩), trivial, aF146⟩
theorem aO147 : T.AllI (fun _ fn => fnOkB tab 0 fn = true) 64 64 tFuncs147 := ⟨fun x h => (by cases h; exact (show fnOkB tab 0 Tryz.f64 = true by kernel_rfl)), trivial, aO146⟩
theorem aF148 : T.AllI (fun n fn => Tryz.prog.funcs[n]? = some fn ∧ ∀ args w, (callFunc n args).run Tryz.prog w = .ok (.enter n args) w) 256 288 tFuncs148 := ⟨fun x h => (by cases h; exact ⟨Tryz.func288, Tryz.call288⟩), trivial, trivial⟩
theorem aO148 : T.AllI (fun _ fn => fnOkB tab 0 fn = true) 256 288 tFuncs148 := ⟨fun x h => (by cases h; exact (show fnOkB tab 0 Tryz.f288 = true by kernel_rfl)), trivial, trivial⟩
theorem aF149 : T.AllI (fun n fn => Tryz.prog.funcs[n]? = some fn ∧ ∀ args w, (callFunc n args).run Tryz.prog w = .ok (.enter n args) w) 128 160 tFuncs149 := ⟨fun x h => (by cases h; exact ⟨Tryz.func160, Tryz.call160⟩), aF148, trivial⟩
theorem aO149 : T.AllI (fun _ fn => fnOkB tab 0 fn = true) 128 160 tFuncs149 := ⟨fun x h => (by cases h; exact (show fnOkB tab 0 Tryz.f160 = true by kernel_rfl)), aO148, trivial⟩
theorem aF150 : T.AllI (fun n fn => Tryz.prog.funcs[n]? = some fn ∧ ∀ args w, (callFunc n args).run Tryz.prog w = .ok (.enter n args) w) 128 224 tFuncs150 := ⟨fun x h => (by cases h; exact ⟨Tryz.func224, Tryz.call224⟩), trivial, trivial⟩
theorem aO150 : T.AllI (fun _ fn => fnOkB tab 0 fn = true) 128 224 tFuncs150 := ⟨fun x h => (by cases h; exact (show fnOkB tab 0 Tryz.f224 = true by kernel_rfl)), trivial, trivial⟩
theorem aF151 : T.AllI (fun n fn => Tryz.prog.funcs[n]? = some fn ∧ ∀ args w, (callFunc n args).run Tryz.prog w = .ok (.enter n args) w) 64 96 tFuncs151 := ⟨fun x h => (by cases h), aF149, aF150⟩
theorem aO151 : T.AllI (fun _ fn => fnOkB tab 0 fn = true) 64 96 tFuncs151 := ⟨fun x h => (by cases h), aO149, aO150⟩
theorem aF152 : T.AllI (fun n fn => Tryz.prog.funcs[n]? = some fn ∧ ∀ args w, (callFunc n args).run Tryz.prog w = .ok (.enter n args) w) 32 32 tFuncs152 := ⟨fun x h => (by cases h; exact ⟨Tryz.func32, Tryz.call32⟩), aF147, aF151⟩
theorem aO152 : T.AllI (fun _ fn => fnOkB tab 0 fn = true) 32 32 tFuncs152 := ⟨fun x h => (by cases h; exact (show fnOkB tab 0 Tryz.f32 = true by kernel_rfl)), aO147, aO151⟩
theorem aF153 : T.AllI (fun n fn => Tryz.prog.funcs[n]? = some fn ∧ ∀ args w, (callFunc n args).run Tryz.prog w = .ok (.enter n args) w) 256 272 tFuncs153 := ⟨fun x h => (by cases h; exact ⟨Tryz.func272, Tryz.call272⟩), trivial, trivial⟩
theorem aO153 : T.AllI (fun _ fn => fnOkB tab 0 fn = true) 256 272 tFuncs153 := ⟨fun x h => (by cases h; exact (show fnOkB tab 0 Tryz.f272 = true by kernel_rfl)), trivial, trivial⟩
theorem aF154 : T.AllI (fun n fn => Tryz.prog.funcs[n]? = some fn ∧ ∀ args w, (callFunc n args).run Tryz.prog w = .ok (.enter n args) w) 128 144 tFuncs154 := ⟨fun x h => (by cases h; exact ⟨Tryz.func144, Tryz.call144⟩), aF153, trivial⟩
theorem aO154 : T.AllI (fun _ fn => fnOkB tab 0 fn = true) 128 144 tFuncs154 := ⟨fun x h => (by cases h; exact (show fnOkB tab 0 Tryz.f144 = true by kernel_rfl)), aO153, trivial⟩
theorem aF155 : T.AllI (fun n fn => Tryz.prog.funcs[n]? = some fn ∧ ∀ args w, (callFunc n args).run Tryz.prog w = .ok (.enter n args) w) 128 208 tFuncs155 := ⟨fun x h => (by cases h; exact ⟨Tryz.func208, Tryz.call208⟩), trivial, trivial⟩
theorem aO155 : T.AllI (fun _ fn => fnOkB tab 0 fn = true) 128 208 tFuncs155 := ⟨fun x h => (by cases h; exact (show fnOkB tab 0 Tryz.f208 = true by kernel_rfl)), trivial, trivial⟩
theorem aF156 : T.AllI (fun n fn => Tryz.prog.funcs[n]? = some fn ∧ ∀ args w, (callFunc n args).run Tryz.prog w = .ok (.enter n args) w) 64 80 tFuncs156 := ⟨fun x h => (by cases h; exact ⟨Tryz.func80, Tryz.call80⟩), aF154, aF155⟩
theorem aO156 : T.AllI (fun _ fn => fnOkB tab 0 fn = true) 64 80 tFuncs156 := ⟨fun x h => (by cases h; exact (show fnOkB tab 0 Tryz.f80 = true by kernel_rfl)), aO154, aO155⟩
theorem aF157 : T.AllI (fun n fn => Tryz.prog.funcs[n]? = some fn ∧ ∀ args w, (callFunc n args).run Tryz.prog w = .ok (.enter n args) w) 256 304 tFuncs157 := ⟨fun x h => (by cases h; exact ⟨Tryz.func304, Tryz.call304⟩), trivial, trivial⟩
theorem aO157 : T.AllI (fun _ fn => fnOkB tab 0 fn = true) 256 304 tFuncs157 := ⟨fun x h => (by cases h; exact (show fnOkB tab 0 Tryz.f304 = true by kernel_rfl)), trivial, trivial⟩
theorem aF158 : T.AllI (fun n fn => Tryz.prog.funcs[n]? = some fn ∧ ∀ args w, (callFunc n args).run Tryz.prog w = .ok (.enter n args) w) 128 176 tFuncs158 := ⟨fun x h => (by cases h), aF157, trivial⟩
theorem aO158 : T.AllI (fun _ fn => fnOkB tab 0 fn = true) 128 176 tFuncs158 := ⟨fun x h => (by cases h), aO157, trivial⟩
theorem aF159 : T.AllI (fun n fn => Tryz.prog.funcs[n]? = some fn ∧ ∀ args w, (callFunc n args).run Tryz.prog w = .ok (.enter n args) w) 64 112 tFuncs159 := ⟨fun x h => (by cases h), aF158, trivial⟩
theorem aO159 : T.AllI (fun _ fn => fnOkB tab 0 fn = true) 64 112 tFuncs159 := ⟨fun x h => (by cases h), aO158, trivial⟩
theorem aF160 : T.AllI (fun n fn => Tryz.prog.funcs[n]? = some fn ∧ ∀ args w, (callFunc n args).run Tryz.prog w = .ok (.enter n args) w) 32 48 tFuncs160 := ⟨fun x h => (by cases h), aF156, aF159⟩
theorem aO160 : T.AllI (fun _ fn => fnOkB tab 0 fn = true) 32 48 tFuncs160 := ⟨fun x h => (by cases h), aO156, aO159⟩
theorem aF161 : T.AllI (fun n fn => Tryz.prog.funcs[n]? = some fn ∧ ∀ args w, (callFunc n args).run Tryz.prog w = .ok (.enter n args) w) 16 16 tFuncs161 := ⟨fun x h => (by cases h; exact ⟨Tryz.func16, Tryz.call16⟩), aF152, aF160⟩
theorem aO161 : T.AllI (fun _ fn => fnOkB tab 0 fn = true) 16 16 tFuncs161 := ⟨fun x h => (by cases h; exact (show fnOkB tab 0 Tryz.f16 = true by kernel_rfl)), aO152, aO160⟩
theorem aF162 : T.AllI (fun n fn => Tryz.prog.funcs[n]? = some fn ∧ ∀ args w, (callFunc n args).run Tryz.prog w = .ok (.enter n args) w) 256 328 tFuncs162 := ⟨fun x h => (by cases h; exact ⟨Tryz.func328, Tryz.call328⟩), trivial, trivial⟩
theorem aO162 : T.AllI (fun _ fn => fnOkB tab 0 fn = true) 256 328 tFuncs162 := ⟨fun x h => (by cases h; exact (show fnOkB tab 0 Tryz.f328 = true by kernel_rfl)), trivial, trivial⟩
theorem aF163 : T.AllI (fun n fn => Tryz.prog.funcs[n]? = some fn ∧ ∀ args w, (callFunc n args).run Tryz.prog w = .ok (.enter n args) w) 128 200 tFuncs163 := ⟨fun x h => (by cases h), aF162, trivial⟩
theorem aO163 : T.AllI (fun _ fn => fnOkB tab 0 fn = true) 128 200 tFuncs163 := ⟨fun x h => (by cases h), aO162, trivial⟩
theorem aF164 : T.AllI (fun n fn => Tryz.prog.funcs[n]? = some fn ∧ ∀ args w, (callFunc n args).run Tryz.prog w = .ok (.enter n args) w) 64 72 tFuncs164 := ⟨fun x h => (by cases h), trivial, aF163⟩
theorem aO164 : T.AllI (fun _ fn => fnOkB tab 0 fn = true) 64 72 tFuncs164 := ⟨fun x h => (by cases h), trivial, aO163⟩
theorem aF165 : T.AllI (fun n fn => Tryz.prog.funcs[n]? = some fn ∧ ∀ args w, (callFunc n args).run Tryz.prog w = .ok (.enter n args) w) 256 296 tFuncs165 := ⟨fun x h => (by cases h; exact ⟨Tryz.func296, Tryz.call296⟩), trivial, trivial⟩
theorem aO165 : T.AllI (fun _ fn => fnOkB tab 0 fn = true) 256 296 tFuncs165 := ⟨fun x h => (by cases h; exact (show fnOkB tab 0 Tryz.f296 = true by kernel_rfl)), trivial, trivial⟩
theorem aF166 : T.AllI (fun n fn => Tryz.prog.funcs[n]? = some fn ∧ ∀ args w, (callFunc n args).run Tryz.prog w = .ok (.enter n args) w) 128 168 tFuncs166 := ⟨fun x h => (by cases h), aF165, trivial⟩
theorem aO166 : T.AllI (fun _ fn => fnOkB tab 0 fn = true) 128 168 tFuncs166 := ⟨fun x h => (by cases h), aO165, trivial⟩
theorem aF167 : T.AllI (fun n fn => Tryz.prog.funcs[n]? = some fn ∧ ∀ args w, (callFunc n args).run Tryz.prog w = .ok (.enter n args) w) 128 232 tFuncs167 := ⟨fun x h => (by cases h; exact ⟨Tryz.func232, Tryz.call232⟩), trivial, trivial⟩
theorem aO167 : T.AllI (fun _ fn => fnOkB tab 0 fn = true) 128 232 tFuncs167 := ⟨fun x h => (by cases h; exact (show fnOkB tab 0 Tryz.f232 = true by kernel_rfl)), trivial, trivial⟩
theorem aF168 : T.AllI (fun n fn => Tryz.prog.funcs[n]? = some fn ∧ ∀ args w, (callFunc n args).run Tryz.prog w = .ok (.enter n args) w) 64 104 tFuncs168 := ⟨fun x h => (by cases h), aF166, aF167⟩
theorem aO168 : T.AllI (fun _ fn => fnOkB tab 0 fn = true) 64 104 tFuncs168 := ⟨fun x h => (by cases h), aO166, aO167⟩
theorem aF169 : T.AllI (fun n fn => Tryz.prog.funcs[n]? = some fn ∧ ∀ args w, (callFunc n args).run Tryz.prog w = .ok (.enter n args) w) 32 40 tFuncs169 := ⟨fun x h => (by cases h; exact ⟨Tryz.func40, Tryz.call40⟩), aF164, aF168⟩
theorem aO169 : T.AllI (fun _ fn => fnOkB tab 0 fn = true) 32 40 tFuncs169 := ⟨fun x h => (by cases h; exact (show fnOkB tab 0 Tryz.f40 = true by kernel_rfl)), aO164, aO168⟩
theorem aF170 : T.AllI (fun n fn => Tryz.prog.funcs[n]? = some fn ∧ ∀ args w, (callFunc n args).run Tryz.prog w = .ok (.enter n args) w) 256 280 tFuncs170 := ⟨fun x h => (by cases h; exact ⟨Tryz.func280, Tryz.call280⟩), trivial, trivial⟩
theorem aO170 : T.AllI (fun _ fn => fnOkB tab 0 fn = true) 256 280 tFuncs170 := ⟨fun x h => (by cases h; exact (show fnOkB tab 0 Tryz.f280 = true by kernel_rfl)), trivial, trivial⟩
theorem aF171 : T.AllI (fun n fn => Tryz.prog.funcs[n]? = some fn ∧ ∀ args w, (callFunc n args).run Tryz.prog w = .ok (.enter n args) w) 128 152 tFuncs171 := ⟨fun x h => (by cases h; exact ⟨Tryz.func152, Tryz.call152⟩), aF170, trivial⟩
theorem aO171 : T.AllI (fun _ fn => fnOkB tab 0 fn = true) 128 152 tFuncs171 := ⟨fun x h => (by cases h; exact (show fnOkB tab 0 Tryz.f152 = true by kernel_rfl)), aO170, trivial⟩
theorem aF172 : T.AllI (fun n fn => Tryz.prog.funcs[n]? = some fn ∧ ∀ args w, (callFunc n args).run Tryz.prog w = .ok (.enter n args) w) 128 216 tFuncs172 := ⟨fun x h => (by cases h; exact ⟨Tryz.func216, Tryz.call216⟩), trivial, trivial⟩
theorem aO172 : T.AllI (fun _ fn => fnOkB tab 0 fn = true) 128 216 tFuncs172 := ⟨fun x h => (by cases h; exact (show fnOkB tab 0 Tryz.f216 = true by kernel_rfl)), trivial, trivial⟩
theorem aF173 : T.AllI (fun n fn => Tryz.prog.funcs[n]? = some fn ∧ ∀ args w, (callFunc n args).run Tryz.prog w = .ok (.enter n args) w) 64 88 tFuncs173 := ⟨fun x h => (by cases h), aF171, aF172⟩
theorem aO173 : T.AllI (fun _ fn => fnOkB tab 0 fn = true) 64 88 tFuncs173 := ⟨fun x h => (by cases h), aO171, aO172⟩
theorem aF174 : T.AllI (fun n fn => Tryz.prog.funcs[n]? = some fn ∧ ∀ args w, (callFunc n args).run Tryz.prog w = .ok (.enter n args) w) 128 184 tFuncs174 := ⟨fun x h => (by cases h; exact ⟨Tryz.func184, Tryz.call184⟩), trivial, trivial⟩
theorem aO174 : T.AllI (fun _ fn => fnOkB tab 0 fn = true) 128 184 tFuncs174 := ⟨fun x h => (by cases h; exact (show fnOkB tab 0 Tryz.f184 = true by kernel_rfl)), trivial, trivial⟩
theorem aF175 : T.AllI (fun n fn => Tryz.prog.funcs[n]? = some fn ∧ ∀ args w, (callFunc n args).run Tryz.prog w = .ok (.enter n args) w) 64 120 tFuncs175 := ⟨fun x h => (by cases h), aF174, trivial⟩
theorem aO175 : T.AllI (fun _ fn => fnOkB tab 0 fn = true) 64 120 tFuncs175 := ⟨fun x h => (by cases h), aO174, trivial⟩
theorem aF176 : T.AllI (fun n fn => Tryz.prog.funcs[n]? = some fn ∧ ∀ args w, (callFunc n args).run Tryz.prog w = .ok (.enter n args) w) 32 56 tFuncs176 := ⟨fun x h => (by cases h), aF173, aF175⟩
theorem aO176 : T.AllI (fun _ fn => fnOkB tab 0 fn = true) 32 56 tFuncs176 := ⟨fun x h => (by cases h), aO173, aO175⟩
theorem aF177 : T.AllI (fun n fn => Tryz.prog.funcs[n]? = some fn ∧ ∀ args w, (callFunc n args).run Tryz.prog w = .ok (.enter n args) w) 16 24 tFuncs177 := ⟨fun x h => (by cases h), aF169, aF176⟩
theorem aO177 : T.AllI (fun _ fn => fnOkB tab 0 fn = true) 16 24 tFuncs177 := ⟨fun x h => (by cases h), aO169, aO176⟩
theorem aF178 : T.AllI (fun n fn => Tryz.prog.funcs[n]? = some fn ∧ ∀ args w, (callFunc n args).run Tryz.prog w = .ok (.enter n args) w) 8 8 tFuncs178 := ⟨fun x h => (by cases h; exact ⟨Tryz.func8, Tryz.call8⟩), aF161, aF177⟩
theorem aO178 : T.AllI (fun _ fn => fnOkB tab 0 fn = true) 8 8 tFuncs178 := ⟨fun x h => (by cases h; exact (show fnOkB tab 0 Tryz.f8 = true by kernel_rfl)), aO161, aO177⟩
theorem aF179 : T.AllI (fun n fn => Tryz.prog.funcs[n]? = some fn ∧ ∀ args w, (callFunc n args).run Tryz.prog w = .ok (.enter n args) w) 64 68 tFuncs179 := ⟨fun x h => (by cases h; exact ⟨Tryz.func68, Tryz.call68⟩), trivial, trivial⟩
theorem aO179 : T.AllI (fun _ fn => fnOkB tab 0 fn = true) 64 68 tFuncs179 := ⟨fun x h => (by cases h; exact (show fnOkB tab 0 Tryz.f68 = true by kernel_rfl)), trivial, trivial⟩
theorem aF180 : T.AllI (fun n fn => Tryz.prog.funcs[n]? = some fn ∧ ∀ args w, (callFunc n args).run Tryz.prog w = .ok (.enter n args) w) 256 292 tFuncs180 := ⟨fun x h => (by cases h; exact ⟨Tryz.func292, Tryz.call292⟩), trivial, trivial⟩
theorem aO180 : T.AllI (fun _ fn => fnOkB tab 0 fn = true) 256 292 tFuncs180 := ⟨fun x h => (by cases h; exact (show fnOkB tab 0 Tryz.f292 = true by kernel_rfl)), trivial, trivial⟩
theorem aF181 : T.AllI (fun n fn => Tryz.prog.funcs[n]? = some fn ∧ ∀ args w, (callFunc n args).run Tryz.prog w = .ok (.enter n args) w) 256 420 tFuncs181 := ⟨fun x h => (by cases h; exact ⟨Tryz.func420, Tryz.call420⟩), trivial, trivial⟩
theorem aO181 : T.AllI (fun _ fn => fnOkB tab 0 fn = true) 256 420 tFuncs181 := ⟨fun x h => (by cases h; exact (show fnOkB tab 0 Tryz.f420 = true by kernel_rfl)), trivial, trivial⟩
theorem aF182 : T.AllI (fun n fn => Tryz.prog.funcs[n]? = some fn ∧ ∀ args w, (callFunc n args).run Tryz.prog w = .ok (.enter n args) w) 128 164 tFuncs182 := ⟨fun x h => (by cases h), aF180, aF181⟩
theorem aO182 : T.AllI (fun _ fn => fnOkB tab 0 fn = true) 128 164 tFuncs182 := ⟨fun x h => (by cases h), aO180, aO181⟩
theorem aF183 : T.AllI (fun n fn => Tryz.prog.funcs[n]? = some fn ∧ ∀ args w, (callFunc n args).run Tryz.prog w = .ok (.enter n args) w) 256 484 tFuncs183 := ⟨fun x h => (by cases h; exact ⟨Tryz.func484, Tryz.call484⟩), trivial, trivial⟩
theorem aO183 : T.AllI (fun _ fn => fnOkB tab 0 fn = true) 256 484 tFuncs183 := ⟨fun x h => (by cases h; exact (show fnOkB tab 0 Tryz.f484 = true by kernel_rfl)), trivial, trivial⟩
theorem aF184 : T.AllI (fun n fn => Tryz.prog.funcs[n]? = some fn ∧ ∀ args w, (callFunc n args).run Tryz.prog w = .ok (.enter n args) w) 128 228 tFuncs184 := ⟨fun x h => (by cases h; exact ⟨Tryz.func228, Tryz.call228⟩), trivial, aF183⟩
theorem aO184 : T.AllI (fun _ fn => fnOkB tab 0 fn = true) 128 228 tFuncs184 := ⟨fun x h => (by cases h; exact (show fnOkB tab 0 Tryz.f228 = true by kernel_rfl)), trivial, aO183⟩
theorem aF185 : T.AllI (fun n fn => Tryz.prog.funcs[n]? = some fn ∧ ∀ args w, (callFunc n args).run Tryz.prog w = .ok (.enter n args) w) 64 100 tFuncs185 := ⟨fun x h => (by cases h; exact ⟨Tryz.func100, Tryz.call100⟩), aF182, aF184⟩
theorem aO185 : T.AllI (fun _ fn => fnOkB tab 0 fn = true) 64 100 tFuncs185 := ⟨fun x h => (by cases h; exact (show fnOkB tab 0 Tryz.f100 = true by kernel_rfl)), aO182, aO184⟩
theorem aF186 : T.AllI (fun n fn => Tryz.prog.funcs[n]? = some fn ∧ ∀ args w, (callFunc n args).run Tryz.prog w = .ok (.enter n args) w) 32 36 tFuncs186 := ⟨fun x h => (by cases h; exact ⟨Tryz.func36, Tryz.call36⟩), aF179, aF185⟩
theorem aO186 : T.AllI (fun _ fn => fnOkB tab 0 fn = true) 32 36 tFuncs186 := ⟨fun x h => (by cases h; exact (show fnOkB tab 0 Tryz.f36 = true by kernel_rfl)), aO179, aO185⟩
theorem aF187 : T.AllI (fun n fn => Tryz.prog.funcs[n]? = some fn ∧ ∀ args w, (callFunc n args).run Tryz.prog w = .ok (.enter n args) w) 256 276 tFuncs187 := ⟨fun x h => (by cases h; exact ⟨Tryz.func276, Tryz.call276⟩), trivial, trivial⟩
theorem aO187 : T.AllI (fun _ fn => fnOkB tab 0 fn = true) 256 276 tFuncs187 := ⟨fun x h => (by cases h; exact (show fnOkB tab 0 Tryz.f276 = true by kernel_rfl)), trivial, trivial⟩
theorem aF188 : T.AllI (fun n fn => Tryz.prog.funcs[n]? = some fn ∧ ∀ args w, (callFunc n args).run Tryz.prog w = .ok (.enter n args) w) 256 404 tFuncs188 := ⟨fun x h => (by cases h; exact ⟨Tryz.func404, Tryz.call404⟩), trivial, trivial⟩
theorem aO188 : T.AllI (fun _ fn => fnOkB tab 0 fn = true) 256 404 tFuncs188 := ⟨fun x h => (by cases h; exact (show fnOkB tab 0 Tryz.f404 = true by kernel_rfl)), trivial, trivial⟩
theorem aF189 : T.AllI (fun n fn => Tryz.prog.funcs[n]? = some fn ∧ ∀ args w, (callFunc n args).run Tryz.prog w = .ok (.enter n args) w) 128 148 tFuncs189 := ⟨fun x h => (by cases h; exact ⟨Tryz.func148, Tryz.call148⟩), aF187, aF188⟩
theorem aO189 : T.AllI (fun _ fn => fnOkB tab 0 fn = true) 128 148 tFuncs189 := ⟨fun x h => (by cases h; exact (show fnOkB tab 0 Tryz.f148 = true by kernel_rfl)), aO187, aO188⟩
theorem aF190 : T.AllI (fun n fn => Tryz.prog.funcs[n]? = some fn ∧ ∀ args w, (callFunc n args).run Tryz.prog w = .ok (.enter n args) w) 64 84 tFuncs190 := ⟨fun x h => (by cases h; exact ⟨Tryz.func84, Tryz.call84⟩), aF189, trivial⟩
theorem aO190 : T.AllI (fun _ fn => fnOkB tab 0 fn = true) 64 84 tFuncs190 := ⟨fun x h => (by cases h; exact (show fnOkB tab 0 Tryz.f84 = true by kernel_rfl)), aO189, trivial⟩
theorem aF191 : T.AllI (fun n fn => Tryz.prog.funcs[n]? = some fn ∧ ∀ args w, (callFunc n args).run Tryz.prog w = .ok (.enter n args) w) 256 308 tFuncs191 := ⟨fun x h => (by cases h; exact ⟨Tryz.func308, Tryz.call308⟩), trivial, trivial⟩
theorem aO191 : T.AllI (fun _ fn => fnOkB tab 0 fn = true) 256 308 tFuncs191 := ⟨fun x h => (by cases h; exact (show fnOkB tab 0 Tryz.f308 = true by kernel_rfl)), trivial, trivial⟩
theorem aF192 : T.AllI (fun n fn => Tryz.prog.funcs[n]? = some fn ∧ ∀ args w, (callFunc n args).run Tryz.prog w = .ok (.enter n args) w) 128 180 tFuncs192 := ⟨fun x h => (by cases h), aF191, trivial⟩
theorem aO192 : T.AllI (fun _ fn => fnOkB tab 0 fn = true) 128 180 tFuncs192 := ⟨fun x h => (by cases h), aO191, trivial⟩
theorem aF193 : T.AllI (fun n fn => Tryz.prog.funcs[n]? = some fn ∧ ∀ args w, (callFunc n args).run Tryz.prog w = .ok (.enter n args) w) 64 116 tFuncs193 := ⟨fun x h => (by cases h), aF192, trivial⟩
theorem aO193 : T.AllI (fun _ fn => fnOkB tab 0 fn = true) 64 116 tFuncs193 := ⟨fun x h => (by cases h), aO192, trivial⟩
theorem aF194 : T.AllI (fun n fn => Tryz.prog.funcs[n]? = some fn ∧ ∀ args w, (callFunc n args).run Tryz.prog w = .ok (.enter n args) w) 32 52 tFuncs194 := ⟨fun x h => (by cases h), aF190, aF193⟩
theorem aO194 : T.AllI (fun _ fn => fnOkB tab 0 fn = true) 32 52 tFuncs194 := ⟨fun x h => (by cases h), aO190, aO193⟩
theorem aF195 : T.AllI (fun n fn => Tryz.prog.funcs[n]? = some fn ∧ ∀ args w, (callFunc n args).run Tryz.prog w = .ok (.enter n args) w) 16 20 tFuncs195 := ⟨fun x h => (by cases h; exact ⟨Tryz.func20, Tryz.call20⟩), aF186, aF194⟩
theorem aO195 : T.AllI (fun _ fn => fnOkB tab 0 fn = true) 16 20 tFuncs195 := ⟨fun x h => (by cases h; exact (show fnOkB tab 0 Tryz.f20 = true by kernel_rfl)), aO186, aO194⟩
theorem aF196 : T.AllI (fun n fn => Tryz.prog.funcs[n]? = some fn ∧ ∀ args w, (callFunc n args).run Tryz.prog w = .ok (.enter n args) w) 256 396 tFuncs196 := ⟨fun x h => (by cases h; exact ⟨Tryz.func396, Tryz.call396⟩), trivial, trivial⟩
theorem aO196 : T.AllI (fun _ fn => fnOkB tab 0 fn = true) 256 396 tFuncs196 := ⟨fun x h => (by cases h; exact (show fnOkB tab 0 Tryz.f396 = true by kernel_rfl)), trivial, trivial⟩
theorem aF197 : T.AllI (fun n fn => Tryz.prog.funcs[n]? = some fn ∧ ∀ args w, (callFunc n args).run Tryz.prog w = .ok (.enter n args) w) 128 140 tFuncs197 := ⟨fun x h => (by cases h; exact ⟨Tryz.func140, Tryz.call140⟩), trivial, aF196⟩
theorem aO197 : T.AllI (fun _ fn => fnOkB tab 0 fn = true) 128 140 tFuncs197 := ⟨fun x h => (by cases h; exact (show fnOkB tab 0 Tryz.f140 = true by kernel_rfl)), trivial, aO196⟩
theorem aF198 : T.AllI (fun n fn => Tryz.prog.funcs[n]? = some fn ∧ ∀ args w, (callFunc n args).run Tryz.prog w = .ok (.enter n args) w) 256 332 tFuncs198 := ⟨fun x h => (by cases h; exact ⟨Tryz.func332, Tryz.call332⟩), trivial, trivial⟩
theorem aO198 : T.AllI (fun _ fn => fnOkB tab 0 fn = true) 256 332 tFuncs198 := ⟨fun x h => (by cases h; exact (show fnOkB tab 0 Tryz.f332 = true by kernel_rfl)), trivial, trivial⟩
theorem aF199 : T.AllI (fun n fn => Tryz.prog.funcs[n]? = some fn ∧ ∀ args w, (callFunc n args).run Tryz.prog w = .ok (.enter n args) w) 256 460 tFuncs199 := ⟨fun x h => (by cases h; exact ⟨Tryz.func460, Tryz.call460⟩), trivial, trivial⟩
theorem aO199 : T.AllI (fun _ fn => fnOkB tab 0 fn = true) 256 460 tFuncs199 := ⟨fun x h => (by cases h; exact (show fnOkB tab 0 Tryz.f460 = true by kernel_rfl)), trivial, trivial⟩
theorem aF200 : T.AllI (fun n fn => Tryz.prog.funcs[n]? = some fn ∧ ∀ args w, (callFunc n args).run Tryz.prog w = .ok (.enter n args) w) 128 204 tFuncs200 := ⟨fun x h => (by cases h; exact ⟨Tryz.func204, Tryz.call204⟩), aF198, aF199⟩
theorem aO200 : T.AllI (fun _ fn => fnOkB tab 0 fn = true) 128 204 tFuncs200 := ⟨fun x h => (by cases h; exact (show fnOkB tab 0 Tryz.f204 = true by kernel_rfl)), aO198, aO199⟩
theorem aF201 : T.AllI (fun n fn => Tryz.prog.funcs[n]? = some fn ∧ ∀ args w, (callFunc n args).run Tryz.prog w = .ok (.enter n args) w) 64 76 tFuncs201 := ⟨fun x h => (by cases h), aF197, aF200⟩
theorem aO201 : T.AllI (fun _ fn => fnOkB tab 0 fn = true) 64 76 tFuncs201 := ⟨fun x h => (by cases h), aO197, aO200⟩
theorem aF202 : T.AllI (fun n fn => Tryz.prog.funcs[n]? = some fn ∧ ∀ args w, (callFunc n args).run Tryz.prog w = .ok (.enter n args) w) 128 172 tFuncs202 := ⟨fun x h => (by cases h; exact ⟨Tryz.func172, Tryz.call172⟩), trivial, trivial⟩
theorem aO202 : T.AllI (fun _ fn => fnOkB tab 0 fn = true) 128 172 tFuncs202 := ⟨fun x h => (by cases h; exact (show fnOkB tab 0 Tryz.f172 = true by kernel_rfl)), trivial, trivial⟩
theorem aF203 : T.AllI (fun n fn => Tryz.prog.funcs[n]? = some fn ∧ ∀ args w, (callFunc n args).run Tryz.prog w = .ok (.enter n args) w) 256 364 tFuncs203 := ⟨fun x h => (by cases h; exact ⟨Tryz.func364, Tryz.call364⟩), trivial, trivial⟩
theorem aO203 : T.AllI (fun _ fn => fnOkB tab 0 fn = true) 256 364 tFuncs203 := ⟨fun x h => (by cases h; exact (show fnOkB tab 0 Tryz.f364 = true by kernel_rfl)), trivial, trivial⟩
theorem aF204 : T.AllI (fun n fn => Tryz.prog.funcs[n]? = some fn ∧ ∀ args w, (callFunc n args).run Tryz.prog w = .ok (.enter n args) w) 128 236 tFuncs204 := ⟨fun x h => (by cases h), aF203, trivial⟩
theorem aO204 : T.AllI (fun _ fn => fnOkB tab 0 fn = true) 128 236 tFuncs204 := ⟨fun x h => (by cases h), aO203, trivial⟩
theorem aF205 : T.AllI (fun n fn => Tryz.prog.funcs[n]? = some fn ∧ ∀ args w, (callFunc n args).run Tryz.prog w = .ok (.enter n args) w) 64 108 tFuncs205 := ⟨fun x h => (by cases h), aF202, aF204⟩
theorem aO205 : T.AllI (fun _ fn => fnOkB tab 0 fn = true) 64 108 tFuncs205 := ⟨fun x h => (by cases h), aO202, aO204⟩
theorem aF206 : T.AllI (fun n fn => Tryz.prog.funcs[n]? = some fn ∧ ∀ args w, (callFunc n args).run Tryz.prog w = .ok (.enter n args) w) 32 44 tFuncs206 := ⟨fun x h => (by cases h; exact ⟨Tryz.func44, Tryz.call44⟩), aF201, aF205⟩
theorem aO206 : T.AllI (fun _ fn => fnOkB tab 0 fn = true) 32 44 tFuncs206 := ⟨fun x h => (by cases h; exact (show fnOkB tab 0 Tryz.f44 = true by kernel_rfl)), aO201, aO205⟩
theorem aF207 : T.AllI (fun n fn => Tryz.prog.funcs[n]? = some fn ∧ ∀ args w, (callFunc n args).run Tryz.prog w = .ok (.enter n args) w) 128 156 tFuncs207 := ⟨fun x h => (by cases h; exact ⟨Tryz.func156, Tryz.call156⟩), trivial, trivial⟩
theorem aO207 : T.AllI (fun _ fn => fnOkB tab 0 fn = true) 128 156 tFuncs207 := ⟨fun x h => (by cases h; exact (show fnOkB tab 0 Tryz.f156 = true by kernel_rfl)), trivial, trivial⟩
theorem aF208 : T.AllI (fun n fn => Tryz.prog.funcs[n]? = some fn ∧ ∀ args w, (callFunc n args).run Tryz.prog w = .ok (.enter n args) w) 128 220 tFuncs208 := ⟨fun x h => (by cases h; exact ⟨Tryz.func220, Tryz.call220⟩), trivial, trivial⟩
theorem aO208 : T.AllI (fun _ fn => fnOkB tab 0 fn = true) 128 220 tFuncs208 := ⟨fun x h => (by cases h; exact (show fnOkB tab 0 Tryz.f220 = true by kernel_rfl)), trivial, trivial⟩
theorem aF209 : T.AllI (fun n fn => Tryz.prog.funcs[n]? = some fn ∧ ∀ args w, (callFunc n args).run Tryz.prog w = .ok (.enter n args) w) 64 92 tFuncs209 := ⟨fun x h => (by cases h; exact ⟨Tryz.func92, Tryz.call92⟩), aF207, aF208⟩
theorem aO209 : T.AllI (fun _ fn => fnOkB tab 0 fn = true) 64 92 tFuncs209 := ⟨fun x h => (by cases h; exact (show fnOkB tab 0 Tryz.f92 = true by kernel_rfl)), aO207, aO208⟩
theorem aF210 : T.AllI (fun n fn => Tryz.prog.funcs[n]? = some fn ∧ ∀ args w, (callFunc n args).run Tryz.prog w = .ok (.enter n args) w) 32 60 tFuncs210 := ⟨fun x h => (by cases h; exact ⟨Tryz.func60, Tryz.call60⟩), aF209, trivial⟩
theorem aO210 : T.AllI (fun _ fn => fnOkB tab 0 fn = true) 32 60 tFuncs210 := ⟨fun x h => (by cases h; exact (show fnOkB tab 0 Tryz.f60 = true by kernel_rfl)), aO209, trivial⟩
theorem aF211 : T.AllI (fun n fn => Tryz.prog.funcs[n]? = some fn ∧ ∀ args w, (callFunc n args).run Tryz.prog w = .ok (.enter n args) w) 16 28 tFuncs211 := ⟨fun x h => (by cases h; exact ⟨Tryz.func28, Tryz.call28⟩), aF206, aF210⟩
theorem aO211 : T.AllI (fun _ fn => fnOkB tab 0 fn = true) 16 28 tFuncs211 := ⟨fun x h => (by cases h; exact (show fnOkB tab 0 Tryz.f28 = true by kernel_rfl)), aO206, aO210⟩
theorem aF212 : T.AllI (fun n fn => Tryz.prog.funcs[n]? = some fn ∧ ∀ args w, (callFunc n args).run Tryz.prog w = .ok (.enter n args) w) 8 12 tFuncs212 := ⟨fun x h => (by cases h; exact ⟨Tryz.func12, Tryz.call12⟩), aF195, aF211⟩
theorem aO212 : T.AllI (fun _ fn => fnOkB tab 0 fn = true) 8 12 tFuncs212 := ⟨fun x h => (by cases h; exact (show fnOkB tab 0 Tryz.f12 = true by kernel_rfl)), aO195, aO211⟩
theorem aF213 : T.AllI (fun n fn => Tryz.prog.funcs[n]? = some fn ∧ ∀ args w, (callFunc n args).run Tryz.prog w = .ok (.enter n args) w) 4 4 tFuncs213 := ⟨fun x h => (by cases h; exact ⟨Tryz.func4, Tryz.call4⟩), aF178, aF212⟩
theorem aO213 : T.AllI (fun _ fn => fnOkB tab 0 fn = true) 4 4 tFuncs213 := ⟨fun x h => (by cases h; exact (show fnOkB tab 0 Tryz.f4 = true by kernel_rfl)), aO178, aO212⟩
theorem aF214 : T.AllI (fun n fn => Tryz.prog.funcs[n]? = some fn ∧ ∀ args w, (callFunc n args).run Tryz.prog w = .ok (.enter n args) w) 256 258 tFuncs214 := ⟨fun x h => (by cases h; exact ⟨Tryz.func258, Tryz.call258⟩), trivial, trivial⟩
theorem aO214 : T.AllI (fun _ fn => fnOkB tab 0 fn = true) 256 258 tFuncs214 := ⟨fun x h => (by cases h; exact (show fnOkB tab 0 Tryz.f258 = true by kernel_rfl)), trivial, trivial⟩
theorem aF215 : T.AllI (fun n fn => Tryz.prog.funcs[n]? = some fn ∧ ∀ args w, (callFunc n args).run Tryz.prog w = .ok (.enter n args) w) 128 130 tFuncs215 := ⟨fun x h => (by cases h; exact ⟨Tryz.func130, Tryz.call130⟩), aF214, trivial⟩
theorem aO215 : T.AllI (fun _ fn => fnOkB tab 0 fn = true) 128 130 tFuncs215 := ⟨fun x h => (by cases h; exact (show fnOkB tab 0 Tryz.f130 = true by kernel_rfl)), aO214, trivial⟩
theorem aF216 : T.AllI (fun n fn => Tryz.prog.funcs[n]? = some fn ∧ ∀ args w, (callFunc n args).run Tryz.prog w = .ok (.enter n args) w) 128 194 tFuncs216 := ⟨fun x h => (by cases h; exact ⟨Tryz.func194, Tryz.call194⟩), trivial, trivial⟩
theorem aO216 : T.AllI (fun _ fn => fnOkB tab 0 fn = true) 128 194 tFuncs216 := ⟨fun x h => (by cases h; exact (show fnOkB tab 0 Tryz.f194 = true by kernel_rfl)), trivial, trivial⟩
theorem aF217 : T.AllI (fun n fn => Tryz.prog.funcs[n]? = some fn ∧ ∀ args w, (callFunc n args).run Tryz.prog w = .ok (.enter n args) w) 64 66 tFuncs217 := ⟨fun x h => (by cases h; exact ⟨Tryz.func66, Tryz.call66⟩), aF215, aF216⟩
theorem aO217 : T.AllI (fun _ fn => fnOkB tab 0 fn = true) 64 66 tFuncs217 := ⟨fun x h => (by cases h; exact (show fnOkB tab 0 Tryz.f66 = true by kernel_rfl)), aO215, aO216⟩
theorem aF218 : T.AllI (fun n fn => Tryz.prog.funcs[n]? = some fn ∧ ∀ args w, (callFunc n args).run Tryz.prog w = .ok (.enter n args) w) 256 290 tFuncs218 := ⟨fun x h => (by cases h; exact ⟨Tryz.func290, Tryz.call290⟩), trivial, trivial⟩
theorem aO218 : T.AllI (fun _ fn => fnOkB tab 0 fn = true) 256 290 tFuncs218 := ⟨fun x h => (by cases h; exact (show fnOkB tab 0 Tryz.f290 = true by kernel_rfl)), trivial, trivial⟩
theorem aF219 : T.AllI (fun n fn => Tryz.prog.funcs[n]? = some fn ∧ ∀ args w, (callFunc n args).run Tryz.prog w = .ok (.enter n args) w) 256 418 tFuncs219 := ⟨fun x h => (by cases h; exact ⟨Tryz.func418, Tryz.call418⟩), trivial, trivial⟩
theorem aO219 : T.AllI (fun _ fn => fnOkB tab 0 fn = true) 256 418 tFuncs219 := ⟨fun x h => (by cases h; exact (show fnOkB tab 0 Tryz.f418 = true by kernel_rfl)), trivial, trivial⟩
theorem aF220 : T.AllI (fun n fn => Tryz.prog.funcs[n]? = some fn ∧ ∀ args w, (callFunc n args).run Tryz.prog w = .ok (.enter n args) w) 128 162 tFuncs220 := ⟨fun x h => (by cases h), aF218, aF219⟩
theorem aO220 : T.AllI (fun _ fn => fnOkB tab 0 fn = true) 128 162 tFuncs220 := ⟨fun x h => (by cases h), aO218, aO219⟩
theorem aF221 : T.AllI (fun n fn => Tryz.prog.funcs[n]? = some fn ∧ ∀ args w, (callFunc n args).run Tryz.prog w = .ok (.enter n args) w) 128 226 tFuncs221 := ⟨fun x h => (by cases h; exact ⟨Tryz.func226, Tryz.call226⟩), trivial, trivial⟩
theorem aO221 : T.AllI (fun _ fn => fnOkB tab 0 fn = true) 128 226 tFuncs221 := ⟨fun x h => (by cases h; exact (show fnOkB tab 0 Tryz.f226 = true by kernel_rfl)), trivial, trivial⟩
theorem aF222 : T.AllI (fun n fn => Tryz.prog.funcs[n]? = some fn ∧ ∀ args w, (callFunc n args).run Tryz.prog w = .ok (.enter n args) w) 64 98 tFuncs222 := ⟨fun x h => (by cases h; exact ⟨Tryz.func98, Tryz.call98⟩), aF220, aF221⟩
theorem aO222 : T.AllI (fun _ fn => fnOkB tab 0 fn = true) 64 98 tFuncs222 := ⟨fun x h => (by cases h; exact (show fnOkB tab 0 Tryz.f98 = true by kernel_rfl)), aO220, aO221⟩
theorem aF223 : T.AllI (fun n fn => Tryz.prog.funcs[n]? = some fn ∧ ∀ args w, (callFunc n args).run Tryz.prog w = .ok (.enter n args) w) 32 34 tFuncs223 := ⟨fun x h => (by cases h; exact ⟨Tryz.func34, Tryz.call34⟩), aF217, aF222⟩
theorem aO223 : T.AllI (fun _ fn => fnOkB tab 0 fn = true) 32 34 tFuncs223 := ⟨fun x h => (by cases h; exact (show fnOkB tab 0 Tryz.f34 = true by kernel_rfl)), aO217, aO222⟩
theorem aF224 : T.AllI (fun n fn => Tryz.prog.funcs[n]? = some fn ∧ ∀ args w, (callFunc n args).run Tryz.prog w = .ok (.enter n args) w) 256 274 tFuncs224 := ⟨fun x h => (by cases h; exact ⟨Tryz.func274, Tryz.call274⟩), trivial, trivial⟩
theorem aO224 : T.AllI (fun _ fn => fnOkB tab 0 fn = true) 256 274 tFuncs224 := ⟨fun x h => (by cases h; exact (show fnOkB tab 0 Tryz.f274 = true by kernel_rfl)), trivial, trivial⟩
theorem aF225 : T.AllI (fun n fn => Tryz.prog.funcs[n]? = some fn ∧ ∀ args w, (callFunc n args).run Tryz.prog w = .ok (.enter n args) w) 256 402 tFuncs225 := ⟨fun x h => (by cases h; exact ⟨Tryz.func402, Tryz.call402⟩), trivial, trivial⟩
theorem aO225 : T.AllI (fun _ fn => fnOkB tab 0 fn = true) 256 402 tFuncs225 := ⟨fun x h => (by cases h; exact (show fnOkB tab 0 Tryz.f402 = true by kernel_rfl)), trivial, trivial⟩
theorem aF226 : T.AllI (fun n fn => Tryz.prog.funcs[n]? = some fn ∧ ∀ args w, (callFunc n args).run Tryz.prog w = .ok (.enter n args) w) 128 146 tFuncs226 := ⟨fun x h => (by cases h; exact ⟨Tryz.func146, Tryz.call146⟩), aF224, aF225⟩
theorem aO226 : T.AllI (fun _ fn => fnOkB tab 0 fn = true) 128 146 tFuncs226 := ⟨fun x h => (by cases h; exact (show fnOkB tab 0 Tryz.f146 = true by kernel_rfl)), aO224, aO225⟩
theorem aF227 : T.AllI (fun n fn => Tryz.prog.funcs[n]? = some fn ∧ ∀ args w, (callFunc n args).run Tryz.prog w = .ok (.enter n args) w) 256 338 tFuncs227 := ⟨fun x h => (by cases h; exact ⟨Tryz.func338, Tryz.call338⟩), trivial, trivial⟩
theorem aO227 : T.AllI (fun _ fn => fnOkB tab 0 fn = true) 256 338 tFuncs227 := ⟨fun x h => (by cases h; exact (show fnOkB tab 0 Tryz.f338 = true by kernel_rfl)), trivial, trivial⟩
theorem aF228 : T.AllI (fun n fn => Tryz.prog.funcs[n]? = some fn ∧ ∀ args w, (callFunc n args).run Tryz.prog w = .ok (.enter n args) w) 256 466 tFuncs228 := ⟨fun x h => (by cases h; exact ⟨Tryz.func466, Tryz.call466⟩), trivial, trivial⟩
theorem aO228 : T.AllI (fun _ fn => fnOkB tab 0 fn = true) 256 466 tFuncs228 := ⟨fun x h => (by cases h; exact (show fnOkB tab 0 Tryz.f466 = true by kernel_rfl)), trivial, trivial⟩
theorem aF229 : T.AllI (fun n fn => Tryz.prog.funcs[n]? = some fn ∧ ∀ args w, (callFunc n args).run Tryz.prog w = .ok (.enter n args) w) 128 210 tFuncs229 := ⟨fun x h => (by cases h), aF227, aF228⟩
theorem aO229 : T.AllI (fun _ fn => fnOkB tab 0 fn = true) 128 210 tFuncs229 := ⟨fun x h => (by cases h), aO227, aO228⟩
theorem aF230 : T.AllI (fun n fn => Tryz.prog.funcs[n]? = some fn ∧ ∀ args w, (callFunc n args).run Tryz.prog w = .ok (.enter n args) w) 64 82 tFuncs230 := ⟨fun x h => (by cases h; exact ⟨Tryz.func82, Tryz.call82⟩), aF226, aF229⟩
theorem aO230 : T.AllI (fun _ fn => fnOkB tab 0 fn = true) 64 82 tFuncs230 := ⟨fun x h => (by cases h; exact (show fnOkB tab 0 Tryz.f82 = true by kernel_rfl)), aO226, aO229⟩
theorem aF231 : T.AllI (fun n fn => Tryz.prog.funcs[n]? = some fn ∧ ∀ args w, (callFunc n args).run Tryz.prog w = .ok (.enter n args) w) 256 306 tFuncs231 := ⟨fun x h => (by cases h; exact ⟨Tryz.func306, Tryz.call306⟩), trivial, trivial⟩
theorem aO231 : T.AllI (fun _ fn => fnOkB tab 0 fn = true) 256 306 tFuncs231 := ⟨fun x h => (by cases h; exact (show fnOkB tab 0 Tryz.f306 = true by kernel_rfl)), trivial, trivial⟩
theorem aF232 : T.AllI (fun n fn => Tryz.prog.funcs[n]? = some fn ∧ ∀ args w, (callFunc n args).run Tryz.prog w = .ok (.enter n args) w) 256 434 tFuncs232 := ⟨fun x h => (by cases h; exact ⟨Tryz.func434, Tryz.call434⟩), trivial, trivial⟩
theorem aO232 : T.AllI (fun _ fn => fnOkB tab 0 fn = true) 256 434 tFuncs232 := ⟨fun x h => (by cases h; exact (show fnOkB tab 0 Tryz.f434 = true by kernel_rfl)), trivial, trivial⟩
theorem aF233 : T.AllI (fun n fn => Tryz.prog.funcs[n]? = some fn ∧ ∀ args w, (callFunc n args).run Tryz.prog w = .ok (.enter n args) w) 128 178 tFuncs233 := ⟨fun x h => (by cases h; exact ⟨Tryz.func178, Tryz.call178⟩), aF231, aF232⟩
theorem aO233 : T.AllI (fun _ fn => fnOkB tab 0 fn = true) 128 178 tFuncs233 := ⟨fun x h => (by cases h; exact (show fnOkB tab 0 Tryz.f178 = true by kernel_rfl)), aO231, aO232⟩
theorem aF234 : T.AllI (fun n fn => Tryz.prog.funcs[n]? = some fn ∧ ∀ args w, (callFunc n args).run Tryz.prog w = .ok (.enter n args) w) 128 242 tFuncs234 := ⟨fun x h => (by cases h; exact ⟨Tryz.func242, Tryz.call242⟩), trivial, trivial⟩
theorem aO234 : T.AllI (fun _ fn => fnOkB tab 0 fn = true) 128 242 tFuncs234 := ⟨fun x h => (by cases h; exact (show fnOkB tab 0 Tryz.f242 = true by kernel_rfl)), trivial, trivial⟩
theorem aF235 : T.AllI (fun n fn => Tryz.prog.funcs[n]? = some fn ∧ ∀ args w, (callFunc n args).run Tryz.prog w = .ok (.enter n args) w) 64 114 tFuncs235 := ⟨fun x h => (by cases h), aF233, aF234⟩
theorem aO235 : T.AllI (fun _ fn => fnOkB tab 0 fn = true) 64 114 tFuncs235 := ⟨fun x h => (by cases h), aO233, aO234⟩
theorem aF236 : T.AllI (fun n fn => Tryz.prog.funcs[n]? = some fn ∧ ∀ args w, (callFunc n args).run Tryz.prog w = .ok (.enter n args) w) 32 50 tFuncs236 := ⟨fun x h => (by cases h; exact ⟨Tryz.func50, Tryz.call50⟩), aF230, aF235⟩
theorem aO236 : T.AllI (fun _ fn => fnOkB tab 0 fn = true) 32 50 tFuncs236 := ⟨fun x h => (by cases h; exact (show fnOkB tab 0 Tryz.f50 = true by kernel_rfl)), aO230, aO235⟩
theorem aF237 : T.AllI (fun n fn => Tryz.prog.funcs[n]? = some fn ∧ ∀ args w, (callFunc n args).run Tryz.prog w = .ok (.enter n args) w) 16 18 tFuncs237 := ⟨fun x h => (by cases h; exact ⟨Tryz.func18, Tryz.call18⟩), aF223, aF236⟩
theorem aO237 : T.AllI (fun _ fn => fnOkB tab 0 fn = true) 16 18 tFuncs237 := ⟨fun x h => (by cases h; exact (show fnOkB tab 0 Tryz.f18 = true by kernel_rfl)), aO223, aO236⟩
theorem aF238 : T.AllI (fun n fn => Tryz.prog.funcs[n]? = some fn ∧ ∀ args w, (callFunc n args).run Tryz.prog w = .ok (.enter n args) w) 256 266 tFuncs238 := ⟨fun x h => (by cases h; exact ⟨Tryz.func266, Tryz.call266⟩), trivial, trivial⟩
theorem aO238 : T.AllI (fun _ fn => fnOkB tab 0 fn = true) 256 266 tFuncs238 := ⟨fun x h => (by cases h; exact (show fnOkB tab 0 Tryz.f266 = true by kernel_rfl)), trivial, trivial⟩
theorem aF239 : T.AllI (fun n fn => Tryz.prog.funcs[n]? = some fn ∧ ∀ args w, (callFunc n args).run Tryz.prog w = .ok (.enter n args) w) 256 394 tFuncs239 := ⟨fun x h => (by cases h; exact ⟨Tryz.func394, Tryz.call394⟩), trivial, trivial⟩
theorem aO239 : T.AllI (fun _ fn => fnOkB tab 0 fn = true) 256 394 tFuncs239 := ⟨fun x h => (by cases h; exact (show fnOkB tab 0 Tryz.f394 = true by kernel_rfl)), trivial, trivial⟩
theorem aF240 : T.AllI (fun n fn => Tryz.prog.funcs[n]? = some fn ∧ ∀ args w, (callFunc n args).run Tryz.prog w = .ok (.enter n args) w) 128 138 tFuncs240 := ⟨fun x h => (by cases h; exact ⟨Tryz.func138, Tryz.call138⟩), aF238, aF239⟩
theorem aO240 : T.AllI (fun _ fn => fnOkB tab 0 fn = true) 128 138 tFuncs240 := ⟨fun x h => (by cases h; exact (show fnOkB tab 0 Tryz.f138 = true by kernel_rfl)), aO238, aO239⟩
theorem aF241 : T.AllI (fun n fn => Tryz.prog.funcs[n]? = some fn ∧ ∀ args w, (callFunc n args).run Tryz.prog w = .ok (.enter n args) w) 256 330 tFuncs241 := ⟨fun x h => (by cases h; exact ⟨Tryz.func330, Tryz.call330⟩), trivial, trivial⟩
theorem aO241 : T.AllI (fun _ fn => fnOkB tab 0 fn = true) 256 330 tFuncs241 := ⟨fun x h => (by cases h; exact (show fnOkB tab 0 Tryz.f330 = true by kernel_rfl)), trivial, trivial⟩
theorem aF242 : T.AllI (fun n fn => Tryz.prog.funcs[n]? = some fn ∧ ∀ args w, (callFunc n args).run Tryz.prog w = .ok (.enter n args) w) 128 202 tFuncs242 := ⟨fun x h => (by cases h; exact ⟨Tryz.func202, Tryz.call202⟩), aF241, trivial⟩
theorem aO242 : T.AllI (fun _ fn => fnOkB tab 0 fn = true) 128 202 tFuncs242 := ⟨fun x h => (by cases h; exact (show fnOkB tab 0 Tryz.f202 = true by kernel_rfl)), aO241, trivial⟩
theorem aF243 : T.AllI (fun n fn => Tryz.prog.funcs[n]? = some fn ∧ ∀ args w, (callFunc n args).run Tryz.prog w = .ok (.enter n args) w) 64 74 tFuncs243 := ⟨fun x h => (by cases h; exact ⟨Tryz.func74, Tryz.call74⟩), aF240, aF242⟩
theorem aO243 : T.AllI (fun _ fn => fnOkB tab 0 fn = true) 64 74 tFuncs243 := ⟨fun x h => (by cases h; exact (show fnOkB tab 0 Tryz.f74 = true by kernel_rfl)), aO240, aO242⟩
theorem aF244 : T.AllI (fun n fn => Tryz.prog.funcs[n]? = some fn ∧ ∀ args w, (callFunc n args).run Tryz.prog w = .ok (.enter n args) w) 256 298 tFuncs244 := ⟨fun x h => (by cases h; exact ⟨Tryz.func298, Tryz.call298⟩), trivial, trivial⟩
theorem aO244 : T.AllI (fun _ fn => fnOkB tab 0 fn = true) 256 298 tFuncs244 := ⟨fun x h => (by cases h; exact (show fnOkB tab 0 Tryz.f298 = true by kernel_rfl)), trivial, trivial⟩
theorem aF245 : T.AllI (fun n fn => Tryz.prog.funcs[n]? = some fn ∧ ∀ args w, (callFunc n args).run Tryz.prog w = .ok (.enter n args) w) 128 170 tFuncs245 := ⟨fun x h => (by cases h; exact ⟨Tryz.func170, Tryz.call170⟩), aF244, trivial⟩
theorem aO245 : T.AllI (fun _ fn => fnOkB tab 0 fn = true) 128 170 tFuncs245 := ⟨fun x h => (by cases h; exact (show fnOkB tab 0 Tryz.f170 = true by kernel_rfl)), aO244, trivial⟩
theorem aF246 : T.AllI (fun n fn => Tryz.prog.funcs[n]? = some fn ∧ ∀ args w, (callFunc n args).run Tryz.prog w = .ok (.enter n args) w) 128 234 tFuncs246 := ⟨fun x h => (by cases h; exact ⟨Tryz.func234, Tryz.call234⟩), trivial, trivial⟩
theorem aO246 : T.AllI (fun _ fn => fnOkB tab 0 fn = true) 128 234 tFuncs246 := ⟨fun x h => (by cases h; exact (show fnOkB tab 0 Tryz.f234 = true by kernel_rfl)), trivial, trivial⟩
theorem aF247 : T.AllI (fun n fn => Tryz.prog.funcs[n]? = some fn ∧ ∀ args w, (callFunc n args).run Tryz.prog w = .ok (.enter n args) w) 64 106 tFuncs247 := ⟨fun x h => (by cases h), aF245, aF246⟩
theorem aO247 : T.AllI (fun _ fn => fnOkB tab 0 fn = true) 64 106 tFuncs247 := ⟨fun x h => (by cases h), aO245, aO246⟩
theorem aF248 : T.AllI (fun n fn => Tryz.prog.funcs[n]? = some fn ∧ ∀ args w, (callFunc n args).run Tryz.prog w = .ok (.enter n args) w) 32 42 tFuncs248 := ⟨fun x h => (by cases h; exact ⟨Tryz.func42, Tryz.call42⟩), aF243, aF247⟩
theorem aO248 : T.AllI (fun _ fn => fnOkB tab 0 fn = true) 32 42 tFuncs248 := ⟨fun x h => (by cases h; exact (show fnOkB tab 0 Tryz.f42 = true by kernel_rfl)), aO243, aO247⟩
theorem aF249 : T.AllI (fun n fn => Tryz.prog.funcs[n]? = some fn ∧ ∀ args w, (callFunc n args).run Tryz.prog w = .ok (.enter n args) w) 256 282 tFuncs249 := ⟨fun x h => (by cases h; exact ⟨Tryz.func282, Tryz.call282⟩), trivial, trivial⟩
theorem aO249 : T.AllI (fun _ fn => fnOkB tab 0 fn = true) 256 282 tFuncs249 := ⟨fun x h => (by cases h; exact (show fnOkB tab 0 Tryz.f282 = true by kernel_rfl)), trivial, trivial⟩
theorem aF250 : T.AllI (fun n fn => Tryz.prog.funcs[n]? = some fn ∧ ∀ args w, (callFunc n args).run Tryz.prog w = .ok (.enter n args) w) 128 154 tFuncs250 := ⟨fun x h => (by cases h; exact ⟨Tryz.func154, Tryz.call154⟩), aF249, trivial⟩
theorem aO250 : T.AllI (fun _ fn => fnOkB tab 0 fn = true) 128 154 tFuncs250 := ⟨fun x h => (by cases h; exact (show fnOkB tab 0 Tryz.f154 = true by kernel_rfl)), aO249, trivial⟩
theorem aF251 : T.AllI (fun n fn => Tryz.prog.funcs[n]? = some fn ∧ ∀ args w, (callFunc n args).run Tryz.prog w = .ok (.enter n args) w) 256 346 tFuncs251 := ⟨fun x h => (by cases h; exact ⟨Tryz.func346, Tryz.call346⟩), trivial, trivial⟩
theorem aO251 : T.AllI (fun _ fn => fnOkB tab 0 fn = true) 256 346 tFuncs251 := ⟨fun x h => (by cases h; exact (show fnOkB tab 0 Tryz.f346 = true by kernel_rfl)), trivial, trivial⟩
theorem aF252 : T.AllI (fun n fn => Tryz.prog.funcs[n]? = some fn ∧ ∀ args w, (callFunc n args).run Tryz.prog w = .ok (.enter n args) w) 128 218 tFuncs252 := ⟨fun x h => (by cases h), aF251, trivial⟩
theorem aO252 : T.AllI (fun _ fn => fnOkB tab 0 fn = true) 128 218 tFuncs252 := ⟨fun x h => (by cases h), aO251, trivial⟩
theorem aF253 : T.AllI (fun n fn => Tryz.prog.funcs[n]? = some fn ∧ ∀ args w, (callFunc n args).run Tryz.prog w = .ok (.enter n args) w) 64 90 tFuncs253 := ⟨fun x h => (by cases h; exact ⟨Tryz.func90, Tryz.call90⟩), aF250, aF252⟩
theorem aO253 : T.AllI (fun _ fn => fnOkB tab 0 fn = true) 64 90 tFuncs253 := ⟨fun x h => (by cases h; exact (show fnOkB tab 0 Tryz.f90 = true by kernel_rfl)), aO250, aO252⟩
theorem aF254 : T.AllI (fun n fn => Tryz.prog.funcs[n]? = some fn ∧ ∀ args w, (callFunc n args).run Tryz.prog w = .ok (.enter n args) w) 32 58 tFuncs254 := ⟨fun x h => (by cases h; exact ⟨Tryz.func58, Tryz.call58⟩), aF253, trivial⟩
theorem aO254 : T.AllI (fun _ fn => fnOkB tab 0 fn = true) 32 58 tFuncs254 := ⟨fun x h => (by cases h; exact (show fnOkB tab 0 Tryz.f58 = true by kernel_rfl)), aO253, trivial⟩
theorem aF255 : T.AllI (fun n fn => Tryz.prog.funcs[n]? = some fn ∧ ∀ args w, (callFunc n args).run Tryz.prog w = .ok (.enter n args) w) 16 26 tFuncs255 := ⟨fun x h => (by cases h), aF248, aF254⟩
theorem aO255 : T.AllI (fun _ fn => fnOkB tab 0 fn = true) 16 26 tFuncs255 := ⟨fun x h => (by cases h), aO248, aO254⟩
theorem aF256 : T.AllI (fun n fn => Tryz.prog.funcs[n]? = some fn ∧ ∀ args w, (callFunc n args).run Tryz.prog w = .ok (.enter n args) w) 8 10 tFuncs256 := ⟨fun x h => (by cases h; exact ⟨Tryz.func10, Tryz.call10⟩), aF237, aF255⟩
theorem aO256 : T.AllI (fun _ fn => fnOkB tab 0 fn = true) 8 10 tFuncs256 := ⟨fun x h => (by cases h; exact (show fnOkB tab 0 Tryz.f10 = true by kernel_rfl)), aO237, aO255⟩
theorem aF257 : T.AllI (fun n fn => Tryz.prog.funcs[n]? = some fn ∧ ∀ args w, (callFunc n args).run Tryz.prog w = .ok (.enter n args) w) 256 390 tFuncs257 := ⟨fun x h => (by cases h; exact ⟨Tryz.func390, Tryz.call390⟩), trivial, trivial⟩
theorem aO257 : T.AllI (fun _ fn => fnOkB tab 0 fn = true) 256 390 tFuncs257 := ⟨fun x h => (by cases h; exact (show fnOkB tab 0 Tryz.f390 = true by kernel_rfl)), trivial, trivial⟩
theorem aF258 : T.AllI (fun n fn => Tryz.prog.funcs[n]? = some fn ∧ ∀ args w, (callFunc n args).run Tryz.prog w = .ok (.enter n args) w) 128 134 tFuncs258 := ⟨fun x h => (by cases h; exact ⟨Tryz.func134, Tryz.call134⟩), trivial, aF257⟩
theorem aO258 : T.AllI (fun _ fn => fnOkB tab 0 fn = true) 128 134 tFuncs258 := ⟨fun x h => (by cases h; exact (show fnOkB tab 0 Tryz.f134 = true by kernel_rfl)), trivial, aO257⟩
theorem aF259 : T.AllI (fun n fn => Tryz.prog.funcs[n]? = some fn ∧ ∀ args w, (callFunc n args).run Tryz.prog w = .ok (.enter n args) w) 64 70 tFuncs259 := ⟨fun x h => (by cases h), aF258, trivial⟩
theorem aO259 : T.AllI (fun _ fn => fnOkB tab 0 fn = true) 64 70 tFuncs259 := ⟨fun x h => (by cases h), aO258, trivial⟩
theorem aF260 : T.AllI (fun n fn => Tryz.prog.funcs[n]? = some fn ∧ ∀ args w, (callFunc n args).run Tryz.prog w = .ok (.enter n args) w) 256 294 tFuncs260 := ⟨fun x h => (by cases h; exact ⟨Tryz.func294, Tryz.call294⟩), trivial, trivial⟩
theorem aO260 : T.AllI (fun _ fn => fnOkB tab 0 fn = true) 256 294 tFuncs260 := ⟨fun x h => (by cases h; exact (show fnOkB tab 0 Tryz.f294 = true by kernel_rfl)), trivial, trivial⟩
theorem aF261 : T.AllI (fun n fn => Tryz.prog.funcs[n]? = some fn ∧ ∀ args w, (callFunc n args).run Tryz.prog w = .ok (.enter n args) w) 128 166 tFuncs261 := ⟨fun x h => (by cases h), aF260, trivial⟩
theorem aO261 : T.AllI (fun _ fn => fnOkB tab 0 fn = true) 128 166 tFuncs261 := ⟨fun x h => (by cases h), aO260, trivial⟩
theorem aF262 : T.AllI (fun n fn => Tryz.prog.funcs[n]? = some fn ∧ ∀ args w, (callFunc n args).run Tryz.prog w = .ok (.enter n args) w) 128 230 tFuncs262 := ⟨fun x h => (by cases h; exact ⟨Tryz.func230, Tryz.call230⟩), trivial, trivial⟩
theorem aO262 : T.AllI (fun _ fn => fnOkB tab 0 fn = true) 128 230 tFuncs262 := ⟨fun x h => (by cases h; exact (show fnOkB tab 0 Tryz.f230 = true by kernel_rfl)), trivial, trivial⟩
theorem aF263 : T.AllI (fun n fn => Tryz.prog.funcs[n]? = some fn ∧ ∀ args w, (callFunc n args).run Tryz.prog w = .ok (.enter n args) w) 64 102 tFuncs263 := ⟨fun x h => (by cases h), aF261, aF262⟩
theorem aO263 : T.AllI (fun _ fn => fnOkB tab 0 fn = true) 64 102 tFuncs263 := ⟨fun x h => (by cases h), aO261, aO262⟩
theorem aF264 : T.AllI (fun n fn => Tryz.prog.funcs[n]? = some fn ∧ ∀ args w, (callFunc n args).run Tryz.prog w = .ok (.enter n args) w) 32 38 tFuncs264 := ⟨fun x h => (by cases h; exact ⟨Tryz.func38, Tryz.call38⟩), aF259, aF263⟩
theorem aO264 : T.AllI (fun _ fn => fnOkB tab 0 fn = true) 32 38 tFuncs264 := ⟨fun x h => (by cases h; exact (show fnOkB tab 0 Tryz.f38 = true by kernel_rfl)), aO259, aO263⟩
theorem aF265 : T.AllI (fun n fn => Tryz.prog.funcs[n]? = some fn ∧ ∀ args w, (callFunc n args).run Tryz.prog w = .ok (.enter n args) w) 256 278 tFuncs265 := ⟨fun x h => (by cases h; exact ⟨Tryz.func278, Tryz.call278⟩), trivial, trivial⟩
theorem aO265 : T.AllI (fun _ fn => fnOkB tab 0 fn = true) 256 278 tFuncs265 := ⟨fun x h => (by cases h; exact (show fnOkB tab 0 Tryz.f278 = true by kernel_rfl)), trivial, trivial⟩
theorem aF266 : T.AllI (fun n fn => Tryz.prog.funcs[n]? = some fn ∧ ∀ args w, (callFunc n args).run Tryz.prog w = .ok (.enter n args) w) 128 150 tFuncs266 := ⟨fun x h => (by cases h; exact ⟨Tryz.func150, Tryz.call150⟩), aF265, trivial⟩
theorem aO266 : T.AllI (fun _ fn => fnOkB tab 0 fn = true) 128 150 tFuncs266 := ⟨fun x h => (by cases h; exact (show fnOkB tab 0 Tryz.f150 = true by kernel_rfl)), aO265, trivial⟩
theorem aF267 : T.AllI (fun n fn => Tryz.prog.funcs[n]? = some fn ∧ ∀ args w, (callFunc n args).run Tryz.prog w = .ok (.enter n args) w) 256 470 tFuncs267 := ⟨fun x h => (by cases h; exact ⟨Tryz.func470, Tryz.call470⟩), trivial, trivial⟩
theorem aO267 : T.AllI (fun _ fn => fnOkB tab 0 fn = true) 256 470 tFuncs267 := ⟨fun x h => (by cases h; exact (show fnOkB tab 0 Tryz.f470 = true by kernel_rfl)), trivial, trivial⟩
theorem aF268 : T.AllI (fun n fn => Tryz.prog.funcs[n]? = some fn ∧ ∀ args w, (callFunc n args).run Tryz.prog w = .ok (.enter n args) w) 128 214 tFuncs268 := ⟨fun x h => (by cases h; exact ⟨Tryz.func214, Tryz.call214⟩), trivial, aF267⟩
theorem aO268 : T.AllI (fun _ fn => fnOkB tab 0 fn = true) 128 214 tFuncs268 := ⟨fun x h => (by cases h; exact (show fnOkB tab 0 Tryz.f214 = true by kernel_rfl)), trivial, aO267⟩
theorem aF269 : T.AllI (fun n fn => Tryz.prog.funcs[n]? = some fn ∧ ∀ args w, (callFunc n args).run Tryz.prog w = .ok (.enter n args) w) 64 86 tFuncs269 := ⟨fun x h => (by cases h; exact ⟨Tryz.func86, Tryz.call86⟩), aF266, aF268⟩
theorem aO269 : T.AllI (fun _ fn => fnOkB tab 0 fn = true) 64 86 tFuncs269 := ⟨fun x h => (by cases h; exact (show fnOkB tab 0 Tryz.f86 = true by kernel_rfl)), aO266, aO268⟩
theorem aF270 : T.AllI (fun n fn => Tryz.prog.funcs[n]? = some fn ∧ ∀ args w, (callFunc n args).run Tryz.prog w = .ok (.enter n args) w) 128 246 tFuncs270 := ⟨fun x h => (by cases h; exact ⟨Tryz.func246, Tryz.call246⟩), trivial, trivial⟩
theorem aO270 : T.AllI (fun _ fn => fnOkB tab 0 fn = true) 128 246 tFuncs270 := ⟨fun x h => (by cases h; exact (show fnOkB tab 0 Tryz.f246 = true by kernel_rfl)), trivial, trivial⟩
theorem aF271 : T.AllI (fun n fn => Tryz.prog.funcs[n]? = some fn ∧ ∀ args w, (callFunc n args).run Tryz.prog w = .ok (.enter n args) w) 64 118 tFuncs271 := ⟨fun x h => (by cases h), trivial, aF270⟩
theorem aO271 : T.AllI (fun _ fn => fnOkB tab 0 fn = true) 64 118 tFuncs271 := ⟨fun x h => (by cases h), trivial, aO270⟩
theorem aF272 : T.AllI (fun n fn => Tryz.prog.funcs[n]? = some fn ∧ ∀ args w, (callFunc n args).run Tryz.prog w = .ok (.enter n args) w) 32 54 tFuncs272 := ⟨fun x h => (by cases h; exact ⟨Tryz.func54, Tryz.call54⟩), aF269, aF271⟩
theorem aO272 : T.AllI (fun _ fn => fnOkB tab 0 fn = true) 32 54 tFuncs272 := ⟨fun x h => (by cases h; exact (show fnOkB tab 0 Tryz.f54 = true by kernel_rfl)), aO269, aO271⟩
theorem aF273 : T.AllI (fun n fn => Tryz.prog.funcs[n]? = some fn ∧ ∀ args w, (callFunc n args).run Tryz.prog w = .ok (.enter n args) w) 16 22 tFuncs273 := ⟨fun x h => (by cases h), aF264, aF272⟩
theorem aO273 : T.AllI (fun _ fn => fnOkB tab 0 fn = true) 16 22 tFuncs273 := ⟨fun x h => (by cases h), aO264, aO272⟩
theorem aF274 : T.AllI (fun n fn => Tryz.prog.funcs[n]? = some fn ∧ ∀ args w, (callFunc n args).run Tryz.prog w = .ok (.enter n args) w) 256 398 tFuncs274 := ⟨fun x h => (by cases h; exact ⟨Tryz.func398, Tryz.call398⟩), trivial, trivial⟩
theorem aO274 : T.AllI (fun _ fn => fnOkB tab 0 fn = true) 256 398 tFuncs274 := ⟨fun x h => (by cases h; exact (show fnOkB tab 0 Tryz.f398 = true by kernel_rfl)), trivial, trivial⟩
theorem aF275 : T.AllI (fun n fn => Tryz.prog.funcs[n]? = some fn ∧ ∀ args w, (callFunc n args).run Tryz.prog w = .ok (.enter n args) w) 128 142 tFuncs275 := ⟨fun x h => (by cases h; exact ⟨Tryz.func142, Tryz.call142⟩), trivial, aF274⟩
theorem aO275 : T.AllI (fun _ fn => fnOkB tab 0 fn = true) 128 142 tFuncs275 := ⟨fun x h => (by cases h; exact (show fnOkB tab 0 Tryz.f142 = true by kernel_rfl)), trivial, aO274⟩
theorem aF276 : T.AllI (fun n fn => Tryz.prog.funcs[n]? = some fn ∧ ∀ args w, (callFunc n args).run Tryz.prog w = .ok (.enter n args) w) 256 334 tFuncs276 := ⟨fun x h => (by cases h; exact ⟨Tryz.func334, Tryz.call334⟩), trivial, trivial⟩
theorem aO276 : T.AllI (fun _ fn => fnOkB tab 0 fn = true) 256 334 tFuncs276 := ⟨fun x h => (by cases h; exact (show fnOkB tab 0 Tryz.f334 = true by kernel_rfl)), trivial, trivial⟩
theorem aF277 : T.AllI (fun n fn => Tryz.prog.funcs[n]? = some fn ∧ ∀ args w, (callFunc n args).run Tryz.prog w = .ok (.enter n args) w) 256 462 tFuncs277 := ⟨fun x h => (by cases h; exact ⟨Tryz.func462, Tryz.call462⟩), trivial, trivial⟩
theorem aO277 : T.AllI (fun _ fn => fnOkB tab 0 fn = true) 256 462 tFuncs277 := ⟨fun x h => (by cases h; exact (show fnOkB tab 0 Tryz.f462 = true by kernel_rfl)), trivial, trivial⟩
theorem aF278 : T.AllI (fun n fn => Tryz.prog.funcs[n]? = some fn ∧ ∀ args w, (callFunc n args).run Tryz.prog w = .ok (.enter n args) w) 128 206 tFuncs278 := ⟨fun x h => (by cases h; exact ⟨Tryz.func206, Tryz.call206⟩), aF276, aF277⟩
theorem aO278 : T.AllI (fun _ fn => fnOkB tab 0 fn = true) 128 206 tFuncs278 := ⟨fun x h => (by cases h; exact (show fnOkB tab 0 Tryz.f206 = true by kernel_rfl)), aO276, aO277⟩
theorem aF279 : T.AllI (fun n fn => Tryz.prog.funcs[n]? = some fn ∧ ∀ args w, (callFunc n args).run Tryz.prog w = .ok (.enter n args) w) 64 78 tFuncs279 := ⟨fun x h => (by cases h; exact ⟨Tryz.func78, Tryz.call78⟩), aF275, aF278⟩
theorem aO279 : T.AllI (fun _ fn => fnOkB tab 0 fn = true) 64 78 tFuncs279 := ⟨fun x h => (by cases h; exact (show fnOkB tab 0 Tryz.f78 = true by kernel_rfl)), aO275, aO278⟩
theorem aF280 : T.AllI (fun n fn => Tryz.prog.funcs[n]? = some fn ∧ ∀ args w, (callFunc n args).run Tryz.prog w = .ok (.enter n args) w) 128 174 tFuncs280 := ⟨fun x h => (by cases h; exact ⟨Tryz.func174, Tryz.call174⟩), trivial, trivial⟩
theorem aO280 : T.AllI (fun _ fn => fnOkB tab 0 fn = true) 128 174 tFuncs280 := ⟨fun x h => (by cases h; exact (show fnOkB tab 0 Tryz.f174 = true by kernel_rfl)), trivial, trivial⟩
theorem aF281 : T.AllI (fun n fn => Tryz.prog.funcs[n]? = some fn ∧ ∀ args w, (callFunc n args).run Tryz.prog w = .ok (.enter n args) w) 64 110 tFuncs281 := ⟨fun x h => (by cases h), aF280, trivial⟩
theorem aO281 : T.AllI (fun _ fn => fnOkB tab 0 fn = true) 64 110 tFuncs281 := ⟨fun x h => (by cases h), aO280, trivial⟩
theorem aF282 : T.AllI (fun n fn => Tryz.prog.funcs[n]? = some fn ∧ ∀ args w, (callFunc n args).run Tryz.prog w = .ok (.enter n args) w) 32 46 tFuncs282 := ⟨fun x h => (by cases h), aF279, aF281⟩
theorem aO282 : T.AllI (fun _ fn => fnOkB tab 0 fn = true) 32 46 tFuncs282 := ⟨fun x h => (by cases h), aO279, aO281⟩
theorem aF283 : T.AllI (fun n fn => Tryz.prog.funcs[n]? = some fn ∧ ∀ args w, (callFunc n args).run Tryz.prog w = .ok (.enter n args) w) 128 222 tFuncs283 := ⟨fun x h => (by cases h; exact ⟨Tryz.func222, Tryz.call222⟩), trivial, trivial⟩
theorem aO283 : T.AllI (fun _ fn => fnOkB tab 0 fn = true) 128 222 tFuncs283 := ⟨fun x h => (by cases h; exact (show fnOkB tab 0 Tryz.f222 = true by kernel_rfl)), trivial, trivial⟩
theorem aF284 : T.AllI (fun n fn => Tryz.prog.funcs[n]? = some fn ∧ ∀ args w, (callFunc n args).run Tryz.prog w = .ok (.enter n args) w) 64 94 tFuncs284 := ⟨fun x h => (by cases h; exact ⟨Tryz.func94, Tryz.call94⟩), trivial, aF283⟩
theorem aO284 : T.AllI (fun _ fn => fnOkB tab 0 fn = true) 64 94 tFuncs284 := ⟨fun x h => (by cases h; exact (show fnOkB tab 0 Tryz.f94 = true by kernel_rfl)), trivial, aO283⟩
theorem aF285 : T.AllI (fun n fn => Tryz.prog.funcs[n]? = some fn ∧ ∀ args w, (callFunc n args).run Tryz.prog w = .ok (.enter n args) w) 256 446 tFuncs285 := ⟨fun x h => (by cases h; exact ⟨Tryz.func446, Tryz.call446⟩), trivial, trivial⟩
theorem aO285 : T.AllI (fun _ fn => fnOkB tab 0 fn = true) 256 446 tFuncs285 := ⟨fun x h => (by cases h; exact (show fnOkB tab 0 Tryz.f446 = true by kernel_rfl)), trivial, trivial⟩
theorem aF286 : T.AllI (fun n fn => Tryz.prog.funcs[n]? = some fn ∧ ∀ args w, (callFunc n args).run Tryz.prog w = .ok (.enter n args) w) 128 190 tFuncs286 := ⟨fun x h => (by cases h), trivial, aF285⟩
theorem aO286 : T.AllI (fun _ fn => fnOkB tab 0 fn = true) 128 190 tFuncs286 := ⟨fun x h => (by cases h), trivial, aO285⟩
theorem aF287 : T.AllI (fun n fn => Tryz.prog.funcs[n]? = some fn ∧ ∀ args w, (callFunc n args).run Tryz.prog w = .ok (.enter n args) w) 256 382 tFuncs287 := ⟨fun x h => (by cases h; exact ⟨Tryz.func382, Tryz.call382⟩), trivial, trivial⟩
theorem aO287 : T.AllI (fun _ fn => fnOkB tab 0 fn = true) 256 382 tFuncs287 := ⟨fun x h => (by cases h; exact (show fnOkB tab 0 Tryz.f382 = true by kernel_rfl)), trivial, trivial⟩
theorem aF288 : T.AllI (fun n fn => Tryz.prog.funcs[n]? = some fn ∧ ∀ args w, (callFunc n args).run Tryz.prog w = .ok (.enter n args) w) 128 254 tFuncs288 := ⟨fun x h => (by cases h), aF287, trivial⟩
theorem aO288 : T.AllI (fun _ fn => fnOkB tab 0 fn = true) 128 254 tFuncs288 := ⟨fun x h => (by cases h), aO287, trivial⟩
theorem aF289 : T.AllI (fun n fn => Tryz.prog.funcs[n]? = some fn ∧ ∀ args w, (callFunc n args).run Tryz.prog w = .ok (.enter n args) w) 64 126 tFuncs289 := ⟨fun x h => (by cases h; exact ⟨Tryz.func126, Tryz.call126⟩), aF286, aF288⟩
theorem aO289 : T.AllI (fun _ fn => fnOkB tab 0 fn = true) 64 126 tFuncs289 := ⟨fun x h => (by cases h; exact (show fnOkB tab 0 Tryz.f126 = true by kernel_rfl)), aO286, aO288⟩
theorem aF290 : T.AllI (fun n fn => Tryz.prog.funcs[n]? = some fn ∧ ∀ args w, (callFunc n args).run Tryz.prog w = .ok (.enter n args) w) 32 62 tFuncs290 := ⟨fun x h => (by cases h; exact ⟨Tryz.func62, Tryz.call62⟩), aF284, aF289⟩
theorem aO290 : T.AllI (fun _ fn => fnOkB tab 0 fn = true) 32 62 tFuncs290 := ⟨fun x h => (by cases h; exact (show fnOkB tab 0 Tryz.f62 = true by kernel_rfl)), aO284, aO289⟩
theorem aF291 : T.AllI (fun n fn => Tryz.prog.funcs[n]? = some fn ∧ ∀ args w, (callFunc n args).run Tryz.prog w = .ok (.enter n args) w) 16 30 tFuncs291 := ⟨fun x h => (by cases h; exact ⟨Tryz.func30, Tryz.call30⟩), aF282, aF290⟩
theorem aO291 : T.AllI (fun _ fn => fnOkB tab 0 fn = true) 16 30 tFuncs291 := ⟨fun x h => (by cases h; exact (show fnOkB tab 0 Tryz.f30 = true by kernel_rfl)), aO282, aO290⟩
theorem aF292 : T.AllI (fun n fn => Tryz.prog.funcs[n]? = some fn ∧ ∀ args w, (callFunc n args).run Tryz.prog w = .ok (.enter n args) w) 8 14 tFuncs292 := ⟨fun x h => (by cases h; exact ⟨Tryz.func14, Tryz.call14⟩), aF273, aF291⟩
theorem aO292 : T.AllI (fun _ fn => fnOkB tab 0 fn = true) 8 14 tFuncs292 := ⟨fun x h => (by cases h; exact (show fnOkB tab 0 Tryz.f14 = true by kernel_rfl)), aO273, aO291⟩
theorem aF293 : T.AllI (fun n fn => Tryz.prog.funcs[n]? = some fn ∧ ∀ args w, (callFunc n args).run Tryz.prog w = .ok (.enter n args) w) 4 6 tFuncs293 := ⟨fun x h => (by cases h; exact ⟨Tryz.func6, Tryz.call6⟩), aF256, aF292⟩
theorem aO293 : T.AllI (fun _ fn => fnOkB tab 0 fn = true) 4 6 tFuncs293 := ⟨fun x h => (by cases h; exact (show fnOkB tab 0 Tryz.f6 = true by kernel_rfl)), aO256, aO292⟩
theorem aF294 : T.AllI (fun n fn => Tryz.prog.funcs[n]? = some fn ∧ ∀ args w, (callFunc n args).run Tryz.prog w = .ok (.enter n args) w) 2 2 tFuncs294 := ⟨fun x h => (by cases h), aF213, aF293⟩
theorem aO294 : T.AllI (fun _ fn => fnOkB tab 0 fn = true) 2 2 tFuncs294 := ⟨fun x h => (by cases h), aO213, aO293⟩
theorem aF295 : T.AllI (fun n fn => Tryz.prog.funcs[n]? = some fn ∧ ∀ args w, (callFunc n args).run Tryz.prog w = .ok (.enter n args) w) 1 0 tFuncs295 := ⟨fun x h => (by cases h), aF144, aF294⟩
theorem aO295 : T.AllI (fun _ fn => fnOkB tab 0 fn = true) 1 0 tFuncs295 := ⟨fun x h => (by cases h), aO144, aO294⟩
theorem aE0 : T.AllI (fun n (_ : Unit) => Tryz.prog.stoodInHeld n = false ∧ Tryz.prog.eqGuardType Tryz.prog.depth n = false) 256 447 tEqs0 := ⟨fun x h => (by cases h; exact ⟨Tryz.stoodInHeld447, Tryz.eqGuardType447⟩), trivial, trivial⟩
theorem aE1 : T.AllI (fun n (_ : Unit) => Tryz.prog.stoodInHeld n = false ∧ Tryz.prog.eqGuardType Tryz.prog.depth n = false) 128 191 tEqs1 := ⟨fun x h => (by cases h), trivial, aE0⟩
theorem aE2 : T.AllI (fun n (_ : Unit) => Tryz.prog.stoodInHeld n = false ∧ Tryz.prog.eqGuardType Tryz.prog.depth n = false) 64 63 tEqs2 := ⟨fun x h => (by cases h), trivial, aE1⟩
theorem aE3 : T.AllI (fun n (_ : Unit) => Tryz.prog.stoodInHeld n = false ∧ Tryz.prog.eqGuardType Tryz.prog.depth n = false) 128 223 tEqs3 := ⟨fun x h => (by cases h; exact ⟨Tryz.stoodInHeld223, Tryz.eqGuardType223⟩), trivial, trivial⟩
theorem aE4 : T.AllI (fun n (_ : Unit) => Tryz.prog.stoodInHeld n = false ∧ Tryz.prog.eqGuardType Tryz.prog.depth n = false) 64 95 tEqs4 := ⟨fun x h => (by cases h), trivial, aE3⟩
theorem aE5 : T.AllI (fun n (_ : Unit) => Tryz.prog.stoodInHeld n = false ∧ Tryz.prog.eqGuardType Tryz.prog.depth n = false) 32 31 tEqs5 := ⟨fun x h => (by cases h), aE2, aE4⟩
theorem aE6 : T.AllI (fun n (_ : Unit) => Tryz.prog.stoodInHeld n = false ∧ Tryz.prog.eqGuardType Tryz.prog.depth n = false) 256 271 tEqs6 := ⟨fun x h => (by cases h; exact ⟨Tryz.stoodInHeld271, Tryz.eqGuardType271⟩), trivial, trivial⟩
theorem aE7 : T.AllI (fun n (_ : Unit) => Tryz.prog.stoodInHeld n = false ∧ Tryz.prog.eqGuardType Tryz.prog.depth n = false) 256 399 tEqs7 := ⟨fun x h => (by cases h; exact ⟨Tryz.stoodInHeld399, Tryz.eqGuardType399⟩), trivial, trivial⟩
theorem aE8 : T.AllI (fun n (_ : Unit) => Tryz.prog.stoodInHeld n = false ∧ Tryz.prog.eqGuardType Tryz.prog.depth n = false) 128 143 tEqs8 := ⟨fun x h => (by cases h), aE6, aE7⟩
theorem aE9 : T.AllI (fun n (_ : Unit) => Tryz.prog.stoodInHeld n = false ∧ Tryz.prog.eqGuardType Tryz.prog.depth n = false) 256 335 tEqs9 := ⟨fun x h => (by cases h; exact ⟨Tryz.stoodInHeld335, Tryz.eqGuardType335⟩), trivial, trivial⟩
theorem aE10 : T.AllI (fun n (_ : Unit) => Tryz.prog.stoodInHeld n = false ∧ Tryz.prog.eqGuardType Tryz.prog.depth n = false) 128 207 tEqs10 := ⟨fun x h => (by cases h; exact ⟨Tryz.stoodInHeld207, Tryz.eqGuardType207⟩), aE9, trivial⟩
theorem aE11 : T.AllI (fun n (_ : Unit) => Tryz.prog.stoodInHeld n = false ∧ Tryz.prog.eqGuardType Tryz.prog.depth n = false) 64 79 tEqs11 := ⟨fun x h => (by cases h), aE8, aE10⟩
theorem aE12 : T.AllI (fun n (_ : Unit) => Tryz.prog.stoodInHeld n = false ∧ Tryz.prog.eqGuardType Tryz.prog.depth n = false) 256 303 tEqs12 := ⟨fun x h => (by cases h; exact ⟨Tryz.stoodInHeld303, Tryz.eqGuardType303⟩), trivial, trivial⟩
theorem aE13 : T.AllI (fun n (_ : Unit) => Tryz.prog.stoodInHeld n = false ∧ Tryz.prog.eqGuardType Tryz.prog.depth n = false) 256 431 tEqs13 := ⟨fun x h => (by cases h; exact ⟨Tryz.stoodInHeld431, Tryz.eqGuardType431⟩), trivial, trivial⟩
theorem aE14 : T.AllI (fun n (_ : Unit) => Tryz.prog.stoodInHeld n = false ∧ Tryz.prog.eqGuardType Tryz.prog.depth n = false) 128 175 tEqs14 := ⟨fun x h => (by cases h), aE12, aE13⟩
theorem aE15 : T.AllI (fun n (_ : Unit) => Tryz.prog.stoodInHeld n = false ∧ Tryz.prog.eqGuardType Tryz.prog.depth n = false) 64 111 tEqs15 := ⟨fun x h => (by cases h), aE14, trivial⟩
theorem aE16 : T.AllI (fun n (_ : Unit) => Tryz.prog.stoodInHeld n = false ∧ Tryz.prog.eqGuardType Tryz.prog.depth n = false) 32 47 tEqs16 := ⟨fun x h => (by cases h), aE11, aE15⟩
theorem aE17 : T.AllI (fun n (_ : Unit) => Tryz.prog.stoodInHeld n = false ∧ Tryz.prog.eqGuardType Tryz.prog.depth n = false) 16 15 tEqs17 := ⟨fun x h => (by cases h), aE5, aE16⟩
theorem aE18 : T.AllI (fun n (_ : Unit) => Tryz.prog.stoodInHeld n = false ∧ Tryz.prog.eqGuardType Tryz.prog.depth n = false) 256 263 tEqs18 := ⟨fun x h => (by cases h; exact ⟨Tryz.stoodInHeld263, Tryz.eqGuardType263⟩), trivial, trivial⟩
theorem aE19 : T.AllI (fun n (_ : Unit) => Tryz.prog.stoodInHeld n = false ∧ Tryz.prog.eqGuardType Tryz.prog.depth n = false) 256 391 tEqs19 := ⟨fun x h => (by cases h; exact ⟨Tryz.stoodInHeld391, Tryz.eqGuardType391⟩), trivial, trivial⟩
theorem aE20 : T.AllI (fun n (_ : Unit) => Tryz.prog.stoodInHeld n = false ∧ Tryz.prog.eqGuardType Tryz.prog.depth n = false) 128 135 tEqs20 := ⟨fun x h => (by cases h), aE18, aE19⟩
theorem aE21 : T.AllI (fun n (_ : Unit) => Tryz.prog.stoodInHeld n = false ∧ Tryz.prog.eqGuardType Tryz.prog.depth n = false) 64 71 tEqs21 := ⟨fun x h => (by cases h; exact ⟨Tryz.stoodInHeld71, Tryz.eqGuardType71⟩), aE20, trivial⟩
theorem aE22 : T.AllI (fun n (_ : Unit) => Tryz.prog.stoodInHeld n = false ∧ Tryz.prog.eqGuardType Tryz.prog.depth n = false) 32 39 tEqs22 := ⟨fun x h => (by cases h), aE21, trivial⟩
theorem aE23 : T.AllI (fun n (_ : Unit) => Tryz.prog.stoodInHeld n = false ∧ Tryz.prog.eqGuardType Tryz.prog.depth n = false) 128 151 tEqs23 := ⟨fun x h => (by cases h; exact ⟨Tryz.stoodInHeld151, Tryz.eqGuardType151⟩), trivial, trivial⟩
theorem aE24 : T.AllI (fun n (_ : Unit) => Tryz.prog.stoodInHeld n = false ∧ Tryz.prog.eqGuardType Tryz.prog.depth n = false) 64 87 tEqs24 := ⟨fun x h => (by cases h), aE23, trivial⟩
theorem aE25 : T.AllI (fun n (_ : Unit) => Tryz.prog.stoodInHeld n = false ∧ Tryz.prog.eqGuardType Tryz.prog.depth n = false) 256 311 tEqs25 := ⟨fun x h => (by cases h; exact ⟨(show Tryz.prog.stoodInHeld 311 = false by kernel_rfl), Tryz.eqGuardType311⟩), trivial, trivial⟩
theorem aE26 : T.AllI (fun n (_ : Unit) => Tryz.prog.stoodInHeld n = false ∧ Tryz.prog.eqGuardType Tryz.prog.depth n = false) 256 439 tEqs26 := ⟨fun x h => (by cases h; exact ⟨Tryz.stoodInHeld439, Tryz.eqGuardType439⟩), trivial, trivial⟩
theorem aE27 : T.AllI (fun n (_ : Unit) => Tryz.prog.stoodInHeld n = false ∧ Tryz.prog.eqGuardType Tryz.prog.depth n = false) 128 183 tEqs27 := ⟨fun x h => (by cases h; exact ⟨Tryz.stoodInHeld183, Tryz.eqGuardType183⟩), aE25, aE26⟩
theorem aE28 : T.AllI (fun n (_ : Unit) => Tryz.prog.stoodInHeld n = false ∧ Tryz.prog.eqGuardType Tryz.prog.depth n = false) 64 119 tEqs28 := ⟨fun x h => (by cases h), aE27, trivial⟩
theorem aE29 : T.AllI (fun n (_ : Unit) => Tryz.prog.stoodInHeld n = false ∧ Tryz.prog.eqGuardType Tryz.prog.depth n = false) 32 55 tEqs29 := ⟨fun x h => (by cases h), aE24, aE28⟩
theorem aE30 : T.AllI (fun n (_ : Unit) => Tryz.prog.stoodInHeld n = false ∧ Tryz.prog.eqGuardType Tryz.prog.depth n = false) 16 23 tEqs30 := ⟨fun x h => (by cases h; exact ⟨(show Tryz.prog.stoodInHeld 23 = false by kernel_rfl), Tryz.eqGuardType23⟩), aE22, aE29⟩
theorem aE31 : T.AllI (fun n (_ : Unit) => Tryz.prog.stoodInHeld n = false ∧ Tryz.prog.eqGuardType Tryz.prog.depth n = false) 8 7 tEqs31 := ⟨fun x h => (by cases h; exact ⟨Tryz.stoodInHeld7, Tryz.eqGuardType7⟩), aE17, aE30⟩
theorem aE32 : T.AllI (fun n (_ : Unit) => Tryz.prog.stoodInHeld n = false ∧ Tryz.prog.eqGuardType Tryz.prog.depth n = false) 128 195 tEqs32 := ⟨fun x h => (by cases h; exact ⟨(show Tryz.prog.stoodInHeld 195 = false by kernel_rfl), Tryz.eqGuardType195⟩), trivial, trivial⟩
theorem aE33 : T.AllI (fun n (_ : Unit) => Tryz.prog.stoodInHeld n = false ∧ Tryz.prog.eqGuardType Tryz.prog.depth n = false) 64 67 tEqs33 := ⟨fun x h => (by cases h), trivial, aE32⟩
theorem aE34 : T.AllI (fun n (_ : Unit) => Tryz.prog.stoodInHeld n = false ∧ Tryz.prog.eqGuardType Tryz.prog.depth n = false) 32 35 tEqs34 := ⟨fun x h => (by cases h), aE33, trivial⟩
theorem aE35 : T.AllI (fun n (_ : Unit) => Tryz.prog.stoodInHeld n = false ∧ Tryz.prog.eqGuardType Tryz.prog.depth n = false) 128 147 tEqs35 := ⟨fun x h => (by cases h; exact ⟨Tryz.stoodInHeld147, Tryz.eqGuardType147⟩), trivial, trivial⟩
theorem aE36 : T.AllI (fun n (_ : Unit) => Tryz.prog.stoodInHeld n = false ∧ Tryz.prog.eqGuardType Tryz.prog.depth n = false) 64 83 tEqs36 := ⟨fun x h => (by cases h; exact ⟨Tryz.stoodInHeld83, Tryz.eqGuardType83⟩), aE35, trivial⟩
theorem aE37 : T.AllI (fun n (_ : Unit) => Tryz.prog.stoodInHeld n = false ∧ Tryz.prog.eqGuardType Tryz.prog.depth n = false) 64 115 tEqs37 := ⟨fun x h => (by cases h; exact ⟨Tryz.stoodInHeld115, Tryz.eqGuardType115⟩), trivial, trivial⟩
theorem aE38 : T.AllI (fun n (_ : Unit) => Tryz.prog.stoodInHeld n = false ∧ Tryz.prog.eqGuardType Tryz.prog.depth n = false) 32 51 tEqs38 := ⟨fun x h => (by cases h), aE36, aE37⟩
theorem aE39 : T.AllI (fun n (_ : Unit) => Tryz.prog.stoodInHeld n = false ∧ Tryz.prog.eqGuardType Tryz.prog.depth n = false) 16 19 tEqs39 := ⟨fun x h => (by cases h), aE34, aE38⟩
theorem aE40 : T.AllI (fun n (_ : Unit) => Tryz.prog.stoodInHeld n = false ∧ Tryz.prog.eqGuardType Tryz.prog.depth n = false) 256 395 tEqs40 := ⟨fun x h => (by cases h; exact ⟨Tryz.stoodInHeld395, Tryz.eqGuardType395⟩), trivial, trivial⟩
theorem aE41 : T.AllI (fun n (_ : Unit) => Tryz.prog.stoodInHeld n = false ∧ Tryz.prog.eqGuardType Tryz.prog.depth n = false) 128 139 tEqs41 := ⟨fun x h => (by cases h), trivial, aE40⟩
theorem aE42 : T.AllI (fun n (_ : Unit) => Tryz.prog.stoodInHeld n = false ∧ Tryz.prog.eqGuardType Tryz.prog.depth n = false) 256 331 tEqs42 := ⟨fun x h => (by cases h; exact ⟨Tryz.stoodInHeld331, Tryz.eqGuardType331⟩), trivial, trivial⟩
theorem aE43 : T.AllI (fun n (_ : Unit) => Tryz.prog.stoodInHeld n = false ∧ Tryz.prog.eqGuardType Tryz.prog.depth n = false) 128 203 tEqs43 := ⟨fun x h => (by cases h), aE42, trivial⟩
theorem aE44 : T.AllI (fun n (_ : Unit) => Tryz.prog.stoodInHeld n = false ∧ Tryz.prog.eqGuardType Tryz.prog.depth n = false) 64 75 tEqs44 := ⟨fun x h => (by cases h), aE41, aE43⟩
theorem aE45 : T.AllI (fun n (_ : Unit) => Tryz.prog.stoodInHeld n = false ∧ Tryz.prog.eqGuardType Tryz.prog.depth n = false) 256 299 tEqs45 := ⟨fun x h => (by cases h; exact ⟨Tryz.stoodInHeld299, Tryz.eqGuardType299⟩), trivial, trivial⟩
theorem aE46 : T.AllI (fun n (_ : Unit) => Tryz.prog.stoodInHeld n = false ∧ Tryz.prog.eqGuardType Tryz.prog.depth n = false) 128 171 tEqs46 := ⟨fun x h => (by cases h), aE45, trivial⟩
theorem aE47 : T.AllI (fun n (_ : Unit) => Tryz.prog.stoodInHeld n = false ∧ Tryz.prog.eqGuardType Tryz.prog.depth n = false) 64 107 tEqs47 := ⟨fun x h => (by cases h), aE46, trivial⟩
theorem aE48 : T.AllI (fun n (_ : Unit) => Tryz.prog.stoodInHeld n = false ∧ Tryz.prog.eqGuardType Tryz.prog.depth n = false) 32 43 tEqs48 := ⟨fun x h => (by cases h; exact ⟨Tryz.stoodInHeld43, Tryz.eqGuardType43⟩), aE44, aE47⟩
theorem aE49 : T.AllI (fun n (_ : Unit) => Tryz.prog.stoodInHeld n = false ∧ Tryz.prog.eqGuardType Tryz.prog.depth n = false) 128 155 tEqs49 := ⟨fun x h => (by cases h; exact ⟨Tryz.stoodInHeld155, Tryz.eqGuardType155⟩), trivial, trivial⟩
theorem aE50 : T.AllI (fun n (_ : Unit) => Tryz.prog.stoodInHeld n = false ∧ Tryz.prog.eqGuardType Tryz.prog.depth n = false) 64 91 tEqs50 := ⟨fun x h => (by cases h), aE49, trivial⟩
theorem aE51 : T.AllI (fun n (_ : Unit) => Tryz.prog.stoodInHeld n = false ∧ Tryz.prog.eqGuardType Tryz.prog.depth n = false) 256 315 tEqs51 := ⟨fun x h => (by cases h; exact ⟨(show Tryz.prog.stoodInHeld 315 = false by kernel_rfl), Tryz.eqGuardType315⟩), trivial, trivial⟩
theorem aE52 : T.AllI (fun n (_ : Unit) => Tryz.prog.stoodInHeld n = false ∧ Tryz.prog.eqGuardType Tryz.prog.depth n = false) 256 443 tEqs52 := ⟨fun x h => (by cases h; exact ⟨Tryz.stoodInHeld443, Tryz.eqGuardType443⟩), trivial, trivial⟩
theorem aE53 : T.AllI (fun n (_ : Unit) => Tryz.prog.stoodInHeld n = false ∧ Tryz.prog.eqGuardType Tryz.prog.depth n = false) 128 187 tEqs53 := ⟨fun x h => (by cases h; exact ⟨Tryz.stoodInHeld187, Tryz.eqGuardType187⟩), aE51, aE52⟩
theorem aE54 : T.AllI (fun n (_ : Unit) => Tryz.prog.stoodInHeld n = false ∧ Tryz.prog.eqGuardType Tryz.prog.depth n = false) 64 123 tEqs54 := ⟨fun x h => (by cases h; exact ⟨Tryz.stoodInHeld123, Tryz.eqGuardType123⟩), aE53, trivial⟩
theorem aE55 : T.AllI (fun n (_ : Unit) => Tryz.prog.stoodInHeld n = false ∧ Tryz.prog.eqGuardType Tryz.prog.depth n = false) 32 59 tEqs55 := ⟨fun x h => (by cases h; exact ⟨(show Tryz.prog.stoodInHeld 59 = false by kernel_rfl), Tryz.eqGuardType59⟩), aE50, aE54⟩
theorem aE56 : T.AllI (fun n (_ : Unit) => Tryz.prog.stoodInHeld n = false ∧ Tryz.prog.eqGuardType Tryz.prog.depth n = false) 16 27 tEqs56 := ⟨fun x h => (by cases h), aE48, aE55⟩
theorem aE57 : T.AllI (fun n (_ : Unit) => Tryz.prog.stoodInHeld n = false ∧ Tryz.prog.eqGuardType Tryz.prog.depth n = false) 8 11 tEqs57 := ⟨fun x h => (by cases h), aE39, aE56⟩
theorem aE58 : T.AllI (fun n (_ : Unit) => Tryz.prog.stoodInHeld n = false ∧ Tryz.prog.eqGuardType Tryz.prog.depth n = false) 4 3 tEqs58 := ⟨fun x h => (by cases h), aE31, aE57⟩
theorem aE59 : T.AllI (fun n (_ : Unit) => Tryz.prog.stoodInHeld n = false ∧ Tryz.prog.eqGuardType Tryz.prog.depth n = false) 512 513 tEqs59 := ⟨fun x h => (by cases h; exact ⟨(show Tryz.prog.stoodInHeld 513 = false by kernel_rfl), Tryz.eqGuardType513⟩), trivial, trivial⟩
theorem aE60 : T.AllI (fun n (_ : Unit) => Tryz.prog.stoodInHeld n = false ∧ Tryz.prog.eqGuardType Tryz.prog.depth n = false) 256 257 tEqs60 := ⟨fun x h => (by cases h), aE59, trivial⟩
theorem aE61 : T.AllI (fun n (_ : Unit) => Tryz.prog.stoodInHeld n = false ∧ Tryz.prog.eqGuardType Tryz.prog.depth n = false) 128 129 tEqs61 := ⟨fun x h => (by cases h; exact ⟨Tryz.stoodInHeld129, Tryz.eqGuardType129⟩), aE60, trivial⟩
theorem aE62 : T.AllI (fun n (_ : Unit) => Tryz.prog.stoodInHeld n = false ∧ Tryz.prog.eqGuardType Tryz.prog.depth n = false) 64 65 tEqs62 := ⟨fun x h => (by cases h), aE61, trivial⟩
theorem aE63 : T.AllI (fun n (_ : Unit) => Tryz.prog.stoodInHeld n = false ∧ Tryz.prog.eqGuardType Tryz.prog.depth n = false) 64 97 tEqs63 := ⟨fun x h => (by cases h; exact ⟨Tryz.stoodInHeld97, Tryz.eqGuardType97⟩), trivial, trivial⟩
theorem aE64 : T.AllI (fun n (_ : Unit) => Tryz.prog.stoodInHeld n = false ∧ Tryz.prog.eqGuardType Tryz.prog.depth n = false) 32 33 tEqs64 := ⟨fun x h => (by cases h; exact ⟨Tryz.stoodInHeld33, Tryz.eqGuardType33⟩), aE62, aE63⟩
theorem aE65 : T.AllI (fun n (_ : Unit) => Tryz.prog.stoodInHeld n = false ∧ Tryz.prog.eqGuardType Tryz.prog.depth n = false) 256 273 tEqs65 := ⟨fun x h => (by cases h; exact ⟨Tryz.stoodInHeld273, Tryz.eqGuardType273⟩), trivial, trivial⟩
theorem aE66 : T.AllI (fun n (_ : Unit) => Tryz.prog.stoodInHeld n = false ∧ Tryz.prog.eqGuardType Tryz.prog.depth n = false) 128 145 tEqs66 := ⟨fun x h => (by cases h), aE65, trivial⟩
theorem aE67 : T.AllI (fun n (_ : Unit) => Tryz.prog.stoodInHeld n = false ∧ Tryz.prog.eqGuardType Tryz.prog.depth n = false) 64 81 tEqs67 := ⟨fun x h => (by cases h; exact ⟨Tryz.stoodInHeld81, Tryz.eqGuardType81⟩), aE66, trivial⟩
theorem aE68 : T.AllI (fun n (_ : Unit) => Tryz.prog.stoodInHeld n = false ∧ Tryz.prog.eqGuardType Tryz.prog.depth n = false) 256 433 tEqs68 := ⟨fun x h => (by cases h; exact ⟨Tryz.stoodInHeld433, Tryz.eqGuardType433⟩), trivial, trivial⟩
theorem aE69 : T.AllI (fun n (_ : Unit) => Tryz.prog.stoodInHeld n = false ∧ Tryz.prog.eqGuardType Tryz.prog.depth n = false) 128 177 tEqs69 := ⟨fun x h => (by cases h), trivial, aE68⟩
theorem aE70 : T.AllI (fun n (_ : Unit) => Tryz.prog.stoodInHeld n = false ∧ Tryz.prog.eqGuardType Tryz.prog.depth n = false) 64 113 tEqs70 := ⟨fun x h => (by cases h), aE69, trivial⟩
theorem aE71 : T.AllI (fun n (_ : Unit) => Tryz.prog.stoodInHeld n = false ∧ Tryz.prog.eqGuardType Tryz.prog.depth n = false) 32 49 tEqs71 := ⟨fun x h => (by cases h), aE67, aE70⟩
theorem aE72 : T.AllI (fun n (_ : Unit) => Tryz.prog.stoodInHeld n = false ∧ Tryz.prog.eqGuardType Tryz.prog.depth n = false) 16 17 tEqs72 := ⟨fun x h => (by cases h), aE64, aE71⟩
theorem aE73 : T.AllI (fun n (_ : Unit) => Tryz.prog.stoodInHeld n = false ∧ Tryz.prog.eqGuardType Tryz.prog.depth n = false) 512 649 tEqs73 := ⟨fun x h => (by cases h; exact ⟨Tryz.stoodInHeld649, Tryz.eqGuardType649⟩), trivial, trivial⟩
theorem aE74 : T.AllI (fun n (_ : Unit) => Tryz.prog.stoodInHeld n = false ∧ Tryz.prog.eqGuardType Tryz.prog.depth n = false) 256 393 tEqs74 := ⟨fun x h => (by cases h; exact ⟨Tryz.stoodInHeld393, Tryz.eqGuardType393⟩), aE73, trivial⟩
theorem aE75 : T.AllI (fun n (_ : Unit) => Tryz.prog.stoodInHeld n = false ∧ Tryz.prog.eqGuardType Tryz.prog.depth n = false) 128 137 tEqs75 := ⟨fun x h => (by cases h; exact ⟨Tryz.stoodInHeld137, Tryz.eqGuardType137⟩), trivial, aE74⟩
theorem aE76 : T.AllI (fun n (_ : Unit) => Tryz.prog.stoodInHeld n = false ∧ Tryz.prog.eqGuardType Tryz.prog.depth n = false) 64 73 tEqs76 := ⟨fun x h => (by cases h), aE75, trivial⟩
theorem aE77 : T.AllI (fun n (_ : Unit) => Tryz.prog.stoodInHeld n = false ∧ Tryz.prog.eqGuardType Tryz.prog.depth n = false) 256 425 tEqs77 := ⟨fun x h => (by cases h; exact ⟨(show Tryz.prog.stoodInHeld 425 = false by kernel_rfl), Tryz.eqGuardType425⟩), trivial, trivial⟩
theorem aE78 : T.AllI (fun n (_ : Unit) => Tryz.prog.stoodInHeld n = false ∧ Tryz.prog.eqGuardType Tryz.prog.depth n = false) 128 169 tEqs78 := ⟨fun x h => (by cases h; exact ⟨Tryz.stoodInHeld169, Tryz.eqGuardType169⟩), trivial, aE77⟩
theorem aE79 : T.AllI (fun n (_ : Unit) => Tryz.prog.stoodInHeld n = false ∧ Tryz.prog.eqGuardType Tryz.prog.depth n = false) 128 233 tEqs79 := ⟨fun x h => (by cases h; exact ⟨Tryz.stoodInHeld233, Tryz.eqGuardType233⟩), trivial, trivial⟩
theorem aE80 : T.AllI (fun n (_ : Unit) => Tryz.prog.stoodInHeld n = false ∧ Tryz.prog.eqGuardType Tryz.prog.depth n = false) 64 105 tEqs80 := ⟨fun x h => (by cases h), aE78, aE79⟩
theorem aE81 : T.AllI (fun n (_ : Unit) => Tryz.prog.stoodInHeld n = false ∧ Tryz.prog.eqGuardType Tryz.prog.depth n = false) 32 41 tEqs81 := ⟨fun x h => (by cases h; exact ⟨Tryz.stoodInHeld41, Tryz.eqGuardType41⟩), aE76, aE80⟩
theorem aE82 : T.AllI (fun n (_ : Unit) => Tryz.prog.stoodInHeld n = false ∧ Tryz.prog.eqGuardType Tryz.prog.depth n = false) 256 281 tEqs82 := ⟨fun x h => (by cases h; exact ⟨Tryz.stoodInHeld281, Tryz.eqGuardType281⟩), trivial, trivial⟩
theorem aE83 : T.AllI (fun n (_ : Unit) => Tryz.prog.stoodInHeld n = false ∧ Tryz.prog.eqGuardType Tryz.prog.depth n = false) 128 153 tEqs83 := ⟨fun x h => (by cases h), aE82, trivial⟩
theorem aE84 : T.AllI (fun n (_ : Unit) => Tryz.prog.stoodInHeld n = false ∧ Tryz.prog.eqGuardType Tryz.prog.depth n = false) 256 473 tEqs84 := ⟨fun x h => (by cases h; exact ⟨Tryz.stoodInHeld473, Tryz.eqGuardType473⟩), trivial, trivial⟩
theorem aE85 : T.AllI (fun n (_ : Unit) => Tryz.prog.stoodInHeld n = false ∧ Tryz.prog.eqGuardType Tryz.prog.depth n = false) 128 217 tEqs85 := ⟨fun x h => (by cases h), trivial, aE84⟩
theorem aE86 : T.AllI (fun n (_ : Unit) => Tryz.prog.stoodInHeld n = false ∧ Tryz.prog.eqGuardType Tryz.prog.depth n = false) 64 89 tEqs86 := ⟨fun x h => (by cases h; exact ⟨Tryz.stoodInHeld89, Tryz.eqGuardType89⟩), aE83, aE85⟩
theorem aE87 : T.AllI (fun n (_ : Unit) => Tryz.prog.stoodInHeld n = false ∧ Tryz.prog.eqGuardType Tryz.prog.depth n = false) 256 313 tEqs87 := ⟨fun x h => (by cases h; exact ⟨Tryz.stoodInHeld313, Tryz.eqGuardType313⟩), trivial, trivial⟩
theorem aE88 : T.AllI (fun n (_ : Unit) => Tryz.prog.stoodInHeld n = false ∧ Tryz.prog.eqGuardType Tryz.prog.depth n = false) 128 185 tEqs88 := ⟨fun x h => (by cases h), aE87, trivial⟩
theorem aE89 : T.AllI (fun n (_ : Unit) => Tryz.prog.stoodInHeld n = false ∧ Tryz.prog.eqGuardType Tryz.prog.depth n = false) 64 121 tEqs89 := ⟨fun x h => (by cases h), aE88, trivial⟩
theorem aE90 : T.AllI (fun n (_ : Unit) => Tryz.prog.stoodInHeld n = false ∧ Tryz.prog.eqGuardType Tryz.prog.depth n = false) 32 57 tEqs90 := ⟨fun x h => (by cases h), aE86, aE89⟩
theorem aE91 : T.AllI (fun n (_ : Unit) => Tryz.prog.stoodInHeld n = false ∧ Tryz.prog.eqGuardType Tryz.prog.depth n = false) 16 25 tEqs91 := ⟨fun x h => (by cases h; exact ⟨Tryz.stoodInHeld25, Tryz.eqGuardType25⟩), aE81, aE90⟩
theorem aE92 : T.AllI (fun n (_ : Unit) => Tryz.prog.stoodInHeld n = false ∧ Tryz.prog.eqGuardType Tryz.prog.depth n = false) 8 9 tEqs92 := ⟨fun x h => (by cases h), aE72, aE91⟩
theorem aE93 : T.AllI (fun n (_ : Unit) => Tryz.prog.stoodInHeld n = false ∧ Tryz.prog.eqGuardType Tryz.prog.depth n = false) 128 165 tEqs93 := ⟨fun x h => (by cases h; exact ⟨Tryz.stoodInHeld165, Tryz.eqGuardType165⟩), trivial, trivial⟩
theorem aE94 : T.AllI (fun n (_ : Unit) => Tryz.prog.stoodInHeld n = false ∧ Tryz.prog.eqGuardType Tryz.prog.depth n = false) 512 613 tEqs94 := ⟨fun x h => (by cases h; exact ⟨(show Tryz.prog.stoodInHeld 613 = false by kernel_rfl), Tryz.eqGuardType613⟩), trivial, trivial⟩
theorem aE95 : T.AllI (fun n (_ : Unit) => Tryz.prog.stoodInHeld n = false ∧ Tryz.prog.eqGuardType Tryz.prog.depth n = false) 256 357 tEqs95 := ⟨fun x h => (by cases h; exact ⟨Tryz.stoodInHeld357, Tryz.eqGuardType357⟩), aE94, trivial⟩
theorem aE96 : T.AllI (fun n (_ : Unit) => Tryz.prog.stoodInHeld n = false ∧ Tryz.prog.eqGuardType Tryz.prog.depth n = false) 128 229 tEqs96 := ⟨fun x h => (by cases h; exact ⟨Tryz.stoodInHeld229, Tryz.eqGuardType229⟩), aE95, trivial⟩
theorem aE97 : T.AllI (fun n (_ : Unit) => Tryz.prog.stoodInHeld n = false ∧ Tryz.prog.eqGuardType Tryz.prog.depth n = false) 64 101 tEqs97 := ⟨fun x h => (by cases h), aE93, aE96⟩
theorem aE98 : T.AllI (fun n (_ : Unit) => Tryz.prog.stoodInHeld n = false ∧ Tryz.prog.eqGuardType Tryz.prog.depth n = false) 32 37 tEqs98 := ⟨fun x h => (by cases h; exact ⟨Tryz.stoodInHeld37, Tryz.eqGuardType37⟩), trivial, aE97⟩
theorem aE99 : T.AllI (fun n (_ : Unit) => Tryz.prog.stoodInHeld n = false ∧ Tryz.prog.eqGuardType Tryz.prog.depth n = false) 256 277 tEqs99 := ⟨fun x h => (by cases h; exact ⟨Tryz.stoodInHeld277, Tryz.eqGuardType277⟩), trivial, trivial⟩
theorem aE100 : T.AllI (fun n (_ : Unit) => Tryz.prog.stoodInHeld n = false ∧ Tryz.prog.eqGuardType Tryz.prog.depth n = false) 128 149 tEqs100 := ⟨fun x h => (by cases h; exact ⟨(show Tryz.prog.stoodInHeld 149 = false by kernel_rfl), Tryz.eqGuardType149⟩), aE99, trivial⟩
theorem aE101 : T.AllI (fun n (_ : Unit) => Tryz.prog.stoodInHeld n = false ∧ Tryz.prog.eqGuardType Tryz.prog.depth n = false) 256 341 tEqs101 := ⟨fun x h => (by cases h; exact ⟨Tryz.stoodInHeld341, Tryz.eqGuardType341⟩), trivial, trivial⟩
theorem aE102 : T.AllI (fun n (_ : Unit) => Tryz.prog.stoodInHeld n = false ∧ Tryz.prog.eqGuardType Tryz.prog.depth n = false) 128 213 tEqs102 := ⟨fun x h => (by cases h; exact ⟨Tryz.stoodInHeld213, Tryz.eqGuardType213⟩), aE101, trivial⟩
theorem aE103 : T.AllI (fun n (_ : Unit) => Tryz.prog.stoodInHeld n = false ∧ Tryz.prog.eqGuardType Tryz.prog.depth n = false) 64 85 tEqs103 := ⟨fun x h => (by cases h), aE100, aE102⟩
theorem aE104 : T.AllI (fun n (_ : Unit) => Tryz.prog.stoodInHeld n = false ∧ Tryz.prog.eqGuardType Tryz.prog.depth n = false) 128 181 tEqs104 := ⟨fun x h => (by cases h; exact ⟨Tryz.stoodInHeld181, Tryz.eqGuardType181⟩), trivial, trivial⟩
theorem aE105 : T.AllI (fun n (_ : Unit) => Tryz.prog.stoodInHeld n = false ∧ Tryz.prog.eqGuardType Tryz.prog.depth n = false) 64 117 tEqs105 := ⟨fun x h => (by cases h), aE104, trivial⟩
theorem aE106 : T.AllI (fun n (_ : Unit) => Tryz.prog.stoodInHeld n = false ∧ Tryz.prog.eqGuardType Tryz.prog.depth n = false) 32 53 tEqs106 := ⟨fun x h => (by cases h; exact ⟨Tryz.stoodInHeld53, Tryz.eqGuardType53⟩), aE103, aE105⟩
theorem aE107 : T.AllI (fun n (_ : Unit) => Tryz.prog.stoodInHeld n = false ∧ Tryz.prog.eqGuardType Tryz.prog.depth n = false) 16 21 tEqs107 := ⟨fun x h => (by cases h), aE98, aE106⟩
theorem aE108 : T.AllI (fun n (_ : Unit) => Tryz.prog.stoodInHeld n = false ∧ Tryz.prog.eqGuardType Tryz.prog.depth n = false) 256 397 tEqs108 := ⟨fun x h => (by cases h; exact ⟨Tryz.stoodInHeld397, Tryz.eqGuardType397⟩), trivial, trivial⟩
theorem aE109 : T.AllI (fun n (_ : Unit) => Tryz.prog.stoodInHeld n = false ∧ Tryz.prog.eqGuardType Tryz.prog.depth n = false) 128 141 tEqs109 := ⟨fun x h => (by cases h; exact ⟨Tryz.stoodInHeld141, Tryz.eqGuardType141⟩), trivial, aE108⟩
theorem aE110 : T.AllI (fun n (_ : Unit) => Tryz.prog.stoodInHeld n = false ∧ Tryz.prog.eqGuardType Tryz.prog.depth n = false) 256 333 tEqs110 := ⟨fun x h => (by cases h; exact ⟨Tryz.stoodInHeld333, Tryz.eqGuardType333⟩), trivial, trivial⟩
theorem aE111 : T.AllI (fun n (_ : Unit) => Tryz.prog.stoodInHeld n = false ∧ Tryz.prog.eqGuardType Tryz.prog.depth n = false) 128 205 tEqs111 := ⟨fun x h => (by cases h; exact ⟨Tryz.stoodInHeld205, Tryz.eqGuardType205⟩), aE110, trivial⟩
theorem aE112 : T.AllI (fun n (_ : Unit) => Tryz.prog.stoodInHeld n = false ∧ Tryz.prog.eqGuardType Tryz.prog.depth n = false) 64 77 tEqs112 := ⟨fun x h => (by cases h), aE109, aE111⟩
theorem aE113 : T.AllI (fun n (_ : Unit) => Tryz.prog.stoodInHeld n = false ∧ Tryz.prog.eqGuardType Tryz.prog.depth n = false) 256 429 tEqs113 := ⟨fun x h => (by cases h; exact ⟨Tryz.stoodInHeld429, Tryz.eqGuardType429⟩), trivial, trivial⟩
theorem aE114 : T.AllI (fun n (_ : Unit) => Tryz.prog.stoodInHeld n = false ∧ Tryz.prog.eqGuardType Tryz.prog.depth n = false) 128 173 tEqs114 := ⟨fun x h => (by cases h), trivial, aE113⟩
theorem aE115 : T.AllI (fun n (_ : Unit) => Tryz.prog.stoodInHeld n = false ∧ Tryz.prog.eqGuardType Tryz.prog.depth n = false) 64 109 tEqs115 := ⟨fun x h => (by cases h), aE114, trivial⟩
theorem aE116 : T.AllI (fun n (_ : Unit) => Tryz.prog.stoodInHeld n = false ∧ Tryz.prog.eqGuardType Tryz.prog.depth n = false) 32 45 tEqs116 := ⟨fun x h => (by cases h), aE112, aE115⟩
theorem aE117 : T.AllI (fun n (_ : Unit) => Tryz.prog.stoodInHeld n = false ∧ Tryz.prog.eqGuardType Tryz.prog.depth n = false) 256 285 tEqs117 := ⟨fun x h => (by cases h; exact ⟨Tryz.stoodInHeld285, Tryz.eqGuardType285⟩), trivial, trivial⟩
theorem aE118 : T.AllI (fun n (_ : Unit) => Tryz.prog.stoodInHeld n = false ∧ Tryz.prog.eqGuardType Tryz.prog.depth n = false) 128 157 tEqs118 := ⟨fun x h => (by cases h), aE117, trivial⟩
theorem aE119 : T.AllI (fun n (_ : Unit) => Tryz.prog.stoodInHeld n = false ∧ Tryz.prog.eqGuardType Tryz.prog.depth n = false) 64 93 tEqs119 := ⟨fun x h => (by cases h), aE118, trivial⟩
theorem aE120 : T.AllI (fun n (_ : Unit) => Tryz.prog.stoodInHeld n = false ∧ Tryz.prog.eqGuardType Tryz.prog.depth n = false) 256 445 tEqs120 := ⟨fun x h => (by cases h; exact ⟨Tryz.stoodInHeld445, Tryz.eqGuardType445⟩), trivial, trivial⟩
theorem aE121 : T.AllI (fun n (_ : Unit) => Tryz.prog.stoodInHeld n = false ∧ Tryz.prog.eqGuardType Tryz.prog.depth n = false) 128 189 tEqs121 := ⟨fun x h => (by cases h), trivial, aE120⟩
theorem aE122 : T.AllI (fun n (_ : Unit) => Tryz.prog.stoodInHeld n = false ∧ Tryz.prog.eqGuardType Tryz.prog.depth n = false) 512 637 tEqs122 := ⟨fun x h => (by cases h; exact ⟨(show Tryz.prog.stoodInHeld 637 = false by kernel_rfl), Tryz.eqGuardType637⟩), trivial, trivial⟩
theorem aE123 : T.AllI (fun n (_ : Unit) => Tryz.prog.stoodInHeld n = false ∧ Tryz.prog.eqGuardType Tryz.prog.depth n = false) 256 381 tEqs123 := ⟨fun x h => (by cases h; exact ⟨Tryz.stoodInHeld381, Tryz.eqGuardType381⟩), aE122, trivial⟩
theorem aE124 : T.AllI (fun n (_ : Unit) => Tryz.prog.stoodInHeld n = false ∧ Tryz.prog.eqGuardType Tryz.prog.depth n = false) 128 253 tEqs124 := ⟨fun x h => (by cases h), aE123, trivial⟩
theorem aE125 : T.AllI (fun n (_ : Unit) => Tryz.prog.stoodInHeld n = false ∧ Tryz.prog.eqGuardType Tryz.prog.depth n = false) 64 125 tEqs125 := ⟨fun x h => (by cases h), aE121, aE124⟩
theorem aE126 : T.AllI (fun n (_ : Unit) => Tryz.prog.stoodInHeld n = false ∧ Tryz.prog.eqGuardType Tryz.prog.depth n = false) 32 61 tEqs126 := ⟨fun x h => (by cases h), aE119, aE125⟩
theorem aE127 : T.AllI (fun n (_ : Unit) => Tryz.prog.stoodInHeld n = false ∧ Tryz.prog.eqGuardType Tryz.prog.depth n = false) 16 29 tEqs127 := ⟨fun x h => (by cases h), aE116, aE126⟩
theorem aE128 : T.AllI (fun n (_ : Unit) => Tryz.prog.stoodInHeld n = false ∧ Tryz.prog.eqGuardType Tryz.prog.depth n = false) 8 13 tEqs128 := ⟨fun x h => (by cases h), aE107, aE127⟩
theorem aE129 : T.AllI (fun n (_ : Unit) => Tryz.prog.stoodInHeld n = false ∧ Tryz.prog.eqGuardType Tryz.prog.depth n = false) 4 5 tEqs129 := ⟨fun x h => (by cases h), aE92, aE128⟩
theorem aE130 : T.AllI (fun n (_ : Unit) => Tryz.prog.stoodInHeld n = false ∧ Tryz.prog.eqGuardType Tryz.prog.depth n = false) 2 1 tEqs130 := ⟨fun x h => (by cases h), aE58, aE129⟩
theorem aE131 : T.AllI (fun n (_ : Unit) => Tryz.prog.stoodInHeld n = false ∧ Tryz.prog.eqGuardType Tryz.prog.depth n = false) 256 448 tEqs131 := ⟨fun x h => (by cases h; exact ⟨Tryz.stoodInHeld448, Tryz.eqGuardType448⟩), trivial, trivial⟩
theorem aE132 : T.AllI (fun n (_ : Unit) => Tryz.prog.stoodInHeld n = false ∧ Tryz.prog.eqGuardType Tryz.prog.depth n = false) 128 192 tEqs132 := ⟨fun x h => (by cases h), trivial, aE131⟩
theorem aE133 : T.AllI (fun n (_ : Unit) => Tryz.prog.stoodInHeld n = false ∧ Tryz.prog.eqGuardType Tryz.prog.depth n = false) 64 64 tEqs133 := ⟨fun x h => (by cases h), trivial, aE132⟩
theorem aE134 : T.AllI (fun n (_ : Unit) => Tryz.prog.stoodInHeld n = false ∧ Tryz.prog.eqGuardType Tryz.prog.depth n = false) 128 224 tEqs134 := ⟨fun x h => (by cases h; exact ⟨Tryz.stoodInHeld224, Tryz.eqGuardType224⟩), trivial, trivial⟩
theorem aE135 : T.AllI (fun n (_ : Unit) => Tryz.prog.stoodInHeld n = false ∧ Tryz.prog.eqGuardType Tryz.prog.depth n = false) 64 96 tEqs135 := ⟨fun x h => (by cases h), trivial, aE134⟩
theorem aE136 : T.AllI (fun n (_ : Unit) => Tryz.prog.stoodInHeld n = false ∧ Tryz.prog.eqGuardType Tryz.prog.depth n = false) 32 32 tEqs136 := ⟨fun x h => (by cases h), aE133, aE135⟩
theorem aE137 : T.AllI (fun n (_ : Unit) => Tryz.prog.stoodInHeld n = false ∧ Tryz.prog.eqGuardType Tryz.prog.depth n = false) 256 272 tEqs137 := ⟨fun x h => (by cases h; exact ⟨Tryz.stoodInHeld272, Tryz.eqGuardType272⟩), trivial, trivial⟩
theorem aE138 : T.AllI (fun n (_ : Unit) => Tryz.prog.stoodInHeld n = false ∧ Tryz.prog.eqGuardType Tryz.prog.depth n = false) 256 400 tEqs138 := ⟨fun x h => (by cases h; exact ⟨(show Tryz.prog.stoodInHeld 400 = false by kernel_rfl), Tryz.eqGuardType400⟩), trivial, trivial⟩
theorem aE139 : T.AllI (fun n (_ : Unit) => Tryz.prog.stoodInHeld n = false ∧ Tryz.prog.eqGuardType Tryz.prog.depth n = false) 128 144 tEqs139 := ⟨fun x h => (by cases h), aE137, aE138⟩
theorem aE140 : T.AllI (fun n (_ : Unit) => Tryz.prog.stoodInHeld n = false ∧ Tryz.prog.eqGuardType Tryz.prog.depth n = false) 256 336 tEqs140 := ⟨fun x h => (by cases h; exact ⟨Tryz.stoodInHeld336, Tryz.eqGuardType336⟩), trivial, trivial⟩
theorem aE141 : T.AllI (fun n (_ : Unit) => Tryz.prog.stoodInHeld n = false ∧ Tryz.prog.eqGuardType Tryz.prog.depth n = false) 128 208 tEqs141 := ⟨fun x h => (by cases h; exact ⟨Tryz.stoodInHeld208, Tryz.eqGuardType208⟩), aE140, trivial⟩
theorem aE142 : T.AllI (fun n (_ : Unit) => Tryz.prog.stoodInHeld n = false ∧ Tryz.prog.eqGuardType Tryz.prog.depth n = false) 64 80 tEqs142 := ⟨fun x h => (by cases h; exact ⟨Tryz.stoodInHeld80, Tryz.eqGuardType80⟩), aE139, aE141⟩
theorem aE143 : T.AllI (fun n (_ : Unit) => Tryz.prog.stoodInHeld n = false ∧ Tryz.prog.eqGuardType Tryz.prog.depth n = false) 256 304 tEqs143 := ⟨fun x h => (by cases h; exact ⟨Tryz.stoodInHeld304, Tryz.eqGuardType304⟩), trivial, trivial⟩
theorem aE144 : T.AllI (fun n (_ : Unit) => Tryz.prog.stoodInHeld n = false ∧ Tryz.prog.eqGuardType Tryz.prog.depth n = false) 256 432 tEqs144 := ⟨fun x h => (by cases h; exact ⟨(show Tryz.prog.stoodInHeld 432 = false by kernel_rfl), Tryz.eqGuardType432⟩), trivial, trivial⟩
theorem aE145 : T.AllI (fun n (_ : Unit) => Tryz.prog.stoodInHeld n = false ∧ Tryz.prog.eqGuardType Tryz.prog.depth n = false) 128 176 tEqs145 := ⟨fun x h => (by cases h), aE143, aE144⟩
theorem aE146 : T.AllI (fun n (_ : Unit) => Tryz.prog.stoodInHeld n = false ∧ Tryz.prog.eqGuardType Tryz.prog.depth n = false) 64 112 tEqs146 := ⟨fun x h => (by cases h), aE145, trivial⟩
theorem aE147 : T.AllI (fun n (_ : Unit) => Tryz.prog.stoodInHeld n = false ∧ Tryz.prog.eqGuardType Tryz.prog.depth n = false) 32 48 tEqs147 := ⟨fun x h => (by cases h), aE142, aE146⟩
theorem aE148 : T.AllI (fun n (_ : Unit) => Tryz.prog.stoodInHeld n = false ∧ Tryz.prog.eqGuardType Tryz.prog.depth n = false) 16 16 tEqs148 := ⟨fun x h => (by cases h), aE136, aE147⟩
theorem aE149 : T.AllI (fun n (_ : Unit) => Tryz.prog.stoodInHeld n = false ∧ Tryz.prog.eqGuardType Tryz.prog.depth n = false) 256 264 tEqs149 := ⟨fun x h => (by cases h; exact ⟨Tryz.stoodInHeld264, Tryz.eqGuardType264⟩), trivial, trivial⟩
theorem aE150 : T.AllI (fun n (_ : Unit) => Tryz.prog.stoodInHeld n = false ∧ Tryz.prog.eqGuardType Tryz.prog.depth n = false) 256 392 tEqs150 := ⟨fun x h => (by cases h; exact ⟨Tryz.stoodInHeld392, Tryz.eqGuardType392⟩), trivial, trivial⟩
theorem aE151 : T.AllI (fun n (_ : Unit) => Tryz.prog.stoodInHeld n = false ∧ Tryz.prog.eqGuardType Tryz.prog.depth n = false) 128 136 tEqs151 := ⟨fun x h => (by cases h; exact ⟨Tryz.stoodInHeld136, Tryz.eqGuardType136⟩), aE149, aE150⟩
theorem aE152 : T.AllI (fun n (_ : Unit) => Tryz.prog.stoodInHeld n = false ∧ Tryz.prog.eqGuardType Tryz.prog.depth n = false) 64 72 tEqs152 := ⟨fun x h => (by cases h), aE151, trivial⟩
theorem aE153 : T.AllI (fun n (_ : Unit) => Tryz.prog.stoodInHeld n = false ∧ Tryz.prog.eqGuardType Tryz.prog.depth n = false) 128 168 tEqs153 := ⟨fun x h => (by cases h; exact ⟨Tryz.stoodInHeld168, Tryz.eqGuardType168⟩), trivial, trivial⟩
theorem aE154 : T.AllI (fun n (_ : Unit) => Tryz.prog.stoodInHeld n = false ∧ Tryz.prog.eqGuardType Tryz.prog.depth n = false) 64 104 tEqs154 := ⟨fun x h => (by cases h), aE153, trivial⟩
theorem aE155 : T.AllI (fun n (_ : Unit) => Tryz.prog.stoodInHeld n = false ∧ Tryz.prog.eqGuardType Tryz.prog.depth n = false) 32 40 tEqs155 := ⟨fun x h => (by cases h; exact ⟨Tryz.stoodInHeld40, Tryz.eqGuardType40⟩), aE152, aE154⟩
theorem aE156 : T.AllI (fun n (_ : Unit) => Tryz.prog.stoodInHeld n = false ∧ Tryz.prog.eqGuardType Tryz.prog.depth n = false) 256 472 tEqs156 := ⟨fun x h => (by cases h; exact ⟨Tryz.stoodInHeld472, Tryz.eqGuardType472⟩), trivial, trivial⟩
theorem aE157 : T.AllI (fun n (_ : Unit) => Tryz.prog.stoodInHeld n = false ∧ Tryz.prog.eqGuardType Tryz.prog.depth n = false) 128 216 tEqs157 := ⟨fun x h => (by cases h), trivial, aE156⟩
theorem aE158 : T.AllI (fun n (_ : Unit) => Tryz.prog.stoodInHeld n = false ∧ Tryz.prog.eqGuardType Tryz.prog.depth n = false) 64 88 tEqs158 := ⟨fun x h => (by cases h; exact ⟨Tryz.stoodInHeld88, Tryz.eqGuardType88⟩), trivial, aE157⟩
theorem aE159 : T.AllI (fun n (_ : Unit) => Tryz.prog.stoodInHeld n = false ∧ Tryz.prog.eqGuardType Tryz.prog.depth n = false) 256 440 tEqs159 := ⟨fun x h => (by cases h; exact ⟨Tryz.stoodInHeld440, Tryz.eqGuardType440⟩), trivial, trivial⟩
theorem aE160 : T.AllI (fun n (_ : Unit) => Tryz.prog.stoodInHeld n = false ∧ Tryz.prog.eqGuardType Tryz.prog.depth n = false) 128 184 tEqs160 := ⟨fun x h => (by cases h), trivial, aE159⟩
theorem aE161 : T.AllI (fun n (_ : Unit) => Tryz.prog.stoodInHeld n = false ∧ Tryz.prog.eqGuardType Tryz.prog.depth n = false) 64 120 tEqs161 := ⟨fun x h => (by cases h), aE160, trivial⟩
theorem aE162 : T.AllI (fun n (_ : Unit) => Tryz.prog.stoodInHeld n = false ∧ Tryz.prog.eqGuardType Tryz.prog.depth n = false) 32 56 tEqs162 := ⟨fun x h => (by cases h), aE158, aE161⟩
theorem aE163 : T.AllI (fun n (_ : Unit) => Tryz.prog.stoodInHeld n = false ∧ Tryz.prog.eqGuardType Tryz.prog.depth n = false) 16 24 tEqs163 := ⟨fun x h => (by cases h; exact ⟨Tryz.stoodInHeld24, Tryz.eqGuardType24⟩), aE155, aE162⟩
theorem aE164 : T.AllI (fun n (_ : Unit) => Tryz.prog.stoodInHeld n = false ∧ Tryz.prog.eqGuardType Tryz.prog.depth n = false) 8 8 tEqs164 := ⟨fun x h => (by cases h; exact ⟨Tryz.stoodInHeld8, Tryz.eqGuardType8⟩), aE148, aE163⟩
theorem aE165 : T.AllI (fun n (_ : Unit) => Tryz.prog.stoodInHeld n = false ∧ Tryz.prog.eqGuardType Tryz.prog.depth n = false) 256 356 tEqs165 := ⟨fun x h => (by cases h; exact ⟨Tryz.stoodInHeld356, Tryz.eqGuardType356⟩), trivial, trivial⟩
theorem aE166 : T.AllI (fun n (_ : Unit) => Tryz.prog.stoodInHeld n = false ∧ Tryz.prog.eqGuardType Tryz.prog.depth n = false) 128 228 tEqs166 := ⟨fun x h => (by cases h; exact ⟨Tryz.stoodInHeld228, Tryz.eqGuardType228⟩), aE165, trivial⟩
theorem aE167 : T.AllI (fun n (_ : Unit) => Tryz.prog.stoodInHeld n = false ∧ Tryz.prog.eqGuardType Tryz.prog.depth n = false) 64 100 tEqs167 := ⟨fun x h => (by cases h), trivial, aE166⟩
theorem aE168 : T.AllI (fun n (_ : Unit) => Tryz.prog.stoodInHeld n = false ∧ Tryz.prog.eqGuardType Tryz.prog.depth n = false) 32 36 tEqs168 := ⟨fun x h => (by cases h), trivial, aE167⟩
theorem aE169 : T.AllI (fun n (_ : Unit) => Tryz.prog.stoodInHeld n = false ∧ Tryz.prog.eqGuardType Tryz.prog.depth n = false) 256 276 tEqs169 := ⟨fun x h => (by cases h; exact ⟨Tryz.stoodInHeld276, Tryz.eqGuardType276⟩), trivial, trivial⟩
theorem aE170 : T.AllI (fun n (_ : Unit) => Tryz.prog.stoodInHeld n = false ∧ Tryz.prog.eqGuardType Tryz.prog.depth n = false) 128 148 tEqs170 := ⟨fun x h => (by cases h; exact ⟨(show Tryz.prog.stoodInHeld 148 = false by kernel_rfl), Tryz.eqGuardType148⟩), aE169, trivial⟩
theorem aE171 : T.AllI (fun n (_ : Unit) => Tryz.prog.stoodInHeld n = false ∧ Tryz.prog.eqGuardType Tryz.prog.depth n = false) 256 340 tEqs171 := ⟨fun x h => (by cases h; exact ⟨Tryz.stoodInHeld340, Tryz.eqGuardType340⟩), trivial, trivial⟩
theorem aE172 : T.AllI (fun n (_ : Unit) => Tryz.prog.stoodInHeld n = false ∧ Tryz.prog.eqGuardType Tryz.prog.depth n = false) 128 212 tEqs172 := ⟨fun x h => (by cases h), aE171, trivial⟩
theorem aE173 : T.AllI (fun n (_ : Unit) => Tryz.prog.stoodInHeld n = false ∧ Tryz.prog.eqGuardType Tryz.prog.depth n = false) 64 84 tEqs173 := ⟨fun x h => (by cases h; exact ⟨Tryz.stoodInHeld84, Tryz.eqGuardType84⟩), aE170, aE172⟩
theorem aE174 : T.AllI (fun n (_ : Unit) => Tryz.prog.stoodInHeld n = false ∧ Tryz.prog.eqGuardType Tryz.prog.depth n = false) 128 180 tEqs174 := ⟨fun x h => (by cases h; exact ⟨Tryz.stoodInHeld180, Tryz.eqGuardType180⟩), trivial, trivial⟩
theorem aE175 : T.AllI (fun n (_ : Unit) => Tryz.prog.stoodInHeld n = false ∧ Tryz.prog.eqGuardType Tryz.prog.depth n = false) 64 116 tEqs175 := ⟨fun x h => (by cases h; exact ⟨(show Tryz.prog.stoodInHeld 116 = false by kernel_rfl), Tryz.eqGuardType116⟩), aE174, trivial⟩
theorem aE176 : T.AllI (fun n (_ : Unit) => Tryz.prog.stoodInHeld n = false ∧ Tryz.prog.eqGuardType Tryz.prog.depth n = false) 32 52 tEqs176 := ⟨fun x h => (by cases h), aE173, aE175⟩
theorem aE177 : T.AllI (fun n (_ : Unit) => Tryz.prog.stoodInHeld n = false ∧ Tryz.prog.eqGuardType Tryz.prog.depth n = false) 16 20 tEqs177 := ⟨fun x h => (by cases h), aE168, aE176⟩
theorem aE178 : T.AllI (fun n (_ : Unit) => Tryz.prog.stoodInHeld n = false ∧ Tryz.prog.eqGuardType Tryz.prog.depth n = false) 256 396 tEqs178 := ⟨fun x h => (by cases h; exact ⟨Tryz.stoodInHeld396, Tryz.eqGuardType396⟩), trivial, trivial⟩
theorem aE179 : T.AllI (fun n (_ : Unit) => Tryz.prog.stoodInHeld n = false ∧ Tryz.prog.eqGuardType Tryz.prog.depth n = false) 128 140 tEqs179 := ⟨fun x h => (by cases h), trivial, aE178⟩
theorem aE180 : T.AllI (fun n (_ : Unit) => Tryz.prog.stoodInHeld n = false ∧ Tryz.prog.eqGuardType Tryz.prog.depth n = false) 64 76 tEqs180 := ⟨fun x h => (by cases h), aE179, trivial⟩
theorem aE181 : T.AllI (fun n (_ : Unit) => Tryz.prog.stoodInHeld n = false ∧ Tryz.prog.eqGuardType Tryz.prog.depth n = false) 256 428 tEqs181 := ⟨fun x h => (by cases h; exact ⟨Tryz.stoodInHeld428, Tryz.eqGuardType428⟩), trivial, trivial⟩
theorem aE182 : T.AllI (fun n (_ : Unit) => Tryz.prog.stoodInHeld n = false ∧ Tryz.prog.eqGuardType Tryz.prog.depth n = false) 128 172 tEqs182 := ⟨fun x h => (by cases h), trivial, aE181⟩
theorem aE183 : T.AllI (fun n (_ : Unit) => Tryz.prog.stoodInHeld n = false ∧ Tryz.prog.eqGuardType Tryz.prog.depth n = false) 256 492 tEqs183 := ⟨fun x h => (by cases h; exact ⟨(show Tryz.prog.stoodInHeld 492 = false by kernel_rfl), Tryz.eqGuardType492⟩), trivial, trivial⟩
theorem aE184 : T.AllI (fun n (_ : Unit) => Tryz.prog.stoodInHeld n = false ∧ Tryz.prog.eqGuardType Tryz.prog.depth n = false) 128 236 tEqs184 := ⟨fun x h => (by cases h), trivial, aE183⟩
theorem aE185 : T.AllI (fun n (_ : Unit) => Tryz.prog.stoodInHeld n = false ∧ Tryz.prog.eqGuardType Tryz.prog.depth n = false) 64 108 tEqs185 := ⟨fun x h => (by cases h), aE182, aE184⟩
theorem aE186 : T.AllI (fun n (_ : Unit) => Tryz.prog.stoodInHeld n = false ∧ Tryz.prog.eqGuardType Tryz.prog.depth n = false) 32 44 tEqs186 := ⟨fun x h => (by cases h; exact ⟨Tryz.stoodInHeld44, Tryz.eqGuardType44⟩), aE180, aE185⟩
theorem aE187 : T.AllI (fun n (_ : Unit) => Tryz.prog.stoodInHeld n = false ∧ Tryz.prog.eqGuardType Tryz.prog.depth n = false) 128 156 tEqs187 := ⟨fun x h => (by cases h; exact ⟨Tryz.stoodInHeld156, Tryz.eqGuardType156⟩), trivial, trivial⟩
theorem aE188 : T.AllI (fun n (_ : Unit) => Tryz.prog.stoodInHeld n = false ∧ Tryz.prog.eqGuardType Tryz.prog.depth n = false) 64 92 tEqs188 := ⟨fun x h => (by cases h), aE187, trivial⟩
theorem aE189 : T.AllI (fun n (_ : Unit) => Tryz.prog.stoodInHeld n = false ∧ Tryz.prog.eqGuardType Tryz.prog.depth n = false) 256 444 tEqs189 := ⟨fun x h => (by cases h; exact ⟨Tryz.stoodInHeld444, Tryz.eqGuardType444⟩), trivial, trivial⟩
theorem aE190 : T.AllI (fun n (_ : Unit) => Tryz.prog.stoodInHeld n = false ∧ Tryz.prog.eqGuardType Tryz.prog.depth n = false) 128 188 tEqs190 := ⟨fun x h => (by cases h), trivial, aE189⟩
theorem aE191 : T.AllI (fun n (_ : Unit) => Tryz.prog.stoodInHeld n = false ∧ Tryz.prog.eqGuardType Tryz.prog.depth n = false) 256 380 tEqs191 := ⟨fun x h => (by cases h; exact ⟨Tryz.stoodInHeld380, Tryz.eqGuardType380⟩), trivial, trivial⟩
theorem aE192 : T.AllI (fun n (_ : Unit) => Tryz.prog.stoodInHeld n = false ∧ Tryz.prog.eqGuardType Tryz.prog.depth n = false) 128 252 tEqs192 := ⟨fun x h => (by cases h), aE191, trivial⟩
theorem aE193 : T.AllI (fun n (_ : Unit) => Tryz.prog.stoodInHeld n = false ∧ Tryz.prog.eqGuardType Tryz.prog.depth n = false) 64 124 tEqs193 := ⟨fun x h => (by cases h), aE190, aE192⟩
theorem aE194 : T.AllI (fun n (_ : Unit) => Tryz.prog.stoodInHeld n = false ∧ Tryz.prog.eqGuardType Tryz.prog.depth n = false) 32 60 tEqs194 := ⟨fun x h => (by cases h), aE188, aE193⟩
theorem aE195 : T.AllI (fun n (_ : Unit) => Tryz.prog.stoodInHeld n = false ∧ Tryz.prog.eqGuardType Tryz.prog.depth n = false) 16 28 tEqs195 := ⟨fun x h => (by cases h), aE186, aE194⟩
theorem aE196 : T.AllI (fun n (_ : Unit) => Tryz.prog.stoodInHeld n = false ∧ Tryz.prog.eqGuardType Tryz.prog.depth n = false) 8 12 tEqs196 := ⟨fun x h => (by cases h), aE177, aE195⟩
theorem aE197 : T.AllI (fun n (_ : Unit) => Tryz.prog.stoodInHeld n = false ∧ Tryz.prog.eqGuardType Tryz.prog.depth n = false) 4 4 tEqs197 := ⟨fun x h => (by cases h), aE164, aE196⟩
theorem aE198 : T.AllI (fun n (_ : Unit) => Tryz.prog.stoodInHeld n = false ∧ Tryz.prog.eqGuardType Tryz.prog.depth n = false) 128 130 tEqs198 := ⟨fun x h => (by cases h; exact ⟨Tryz.stoodInHeld130, Tryz.eqGuardType130⟩), trivial, trivial⟩
theorem aE199 : T.AllI (fun n (_ : Unit) => Tryz.prog.stoodInHeld n = false ∧ Tryz.prog.eqGuardType Tryz.prog.depth n = false) 64 66 tEqs199 := ⟨fun x h => (by cases h), aE198, trivial⟩
theorem aE200 : T.AllI (fun n (_ : Unit) => Tryz.prog.stoodInHeld n = false ∧ Tryz.prog.eqGuardType Tryz.prog.depth n = false) 64 98 tEqs200 := ⟨fun x h => (by cases h; exact ⟨Tryz.stoodInHeld98, Tryz.eqGuardType98⟩), trivial, trivial⟩
theorem aE201 : T.AllI (fun n (_ : Unit) => Tryz.prog.stoodInHeld n = false ∧ Tryz.prog.eqGuardType Tryz.prog.depth n = false) 32 34 tEqs201 := ⟨fun x h => (by cases h; exact ⟨Tryz.stoodInHeld34, Tryz.eqGuardType34⟩), aE199, aE200⟩
theorem aE202 : T.AllI (fun n (_ : Unit) => Tryz.prog.stoodInHeld n = false ∧ Tryz.prog.eqGuardType Tryz.prog.depth n = false) 128 146 tEqs202 := ⟨fun x h => (by cases h; exact ⟨Tryz.stoodInHeld146, Tryz.eqGuardType146⟩), trivial, trivial⟩
theorem aE203 : T.AllI (fun n (_ : Unit) => Tryz.prog.stoodInHeld n = false ∧ Tryz.prog.eqGuardType Tryz.prog.depth n = false) 64 82 tEqs203 := ⟨fun x h => (by cases h), aE202, trivial⟩
theorem aE204 : T.AllI (fun n (_ : Unit) => Tryz.prog.stoodInHeld n = false ∧ Tryz.prog.eqGuardType Tryz.prog.depth n = false) 64 114 tEqs204 := ⟨fun x h => (by cases h; exact ⟨Tryz.stoodInHeld114, Tryz.eqGuardType114⟩), trivial, trivial⟩
theorem aE205 : T.AllI (fun n (_ : Unit) => Tryz.prog.stoodInHeld n = false ∧ Tryz.prog.eqGuardType Tryz.prog.depth n = false) 32 50 tEqs205 := ⟨fun x h => (by cases h), aE203, aE204⟩
theorem aE206 : T.AllI (fun n (_ : Unit) => Tryz.prog.stoodInHeld n = false ∧ Tryz.prog.eqGuardType Tryz.prog.depth n = false) 16 18 tEqs206 := ⟨fun x h => (by cases h), aE201, aE205⟩
theorem aE207 : T.AllI (fun n (_ : Unit) => Tryz.prog.stoodInHeld n = false ∧ Tryz.prog.eqGuardType Tryz.prog.depth n = false) 256 394 tEqs207 := ⟨fun x h => (by cases h; exact ⟨Tryz.stoodInHeld394, Tryz.eqGuardType394⟩), trivial, trivial⟩
theorem aE208 : T.AllI (fun n (_ : Unit) => Tryz.prog.stoodInHeld n = false ∧ Tryz.prog.eqGuardType Tryz.prog.depth n = false) 128 138 tEqs208 := ⟨fun x h => (by cases h), trivial, aE207⟩
theorem aE209 : T.AllI (fun n (_ : Unit) => Tryz.prog.stoodInHeld n = false ∧ Tryz.prog.eqGuardType Tryz.prog.depth n = false) 256 330 tEqs209 := ⟨fun x h => (by cases h; exact ⟨Tryz.stoodInHeld330, Tryz.eqGuardType330⟩), trivial, trivial⟩
theorem aE210 : T.AllI (fun n (_ : Unit) => Tryz.prog.stoodInHeld n = false ∧ Tryz.prog.eqGuardType Tryz.prog.depth n = false) 128 202 tEqs210 := ⟨fun x h => (by cases h), aE209, trivial⟩
theorem aE211 : T.AllI (fun n (_ : Unit) => Tryz.prog.stoodInHeld n = false ∧ Tryz.prog.eqGuardType Tryz.prog.depth n = false) 64 74 tEqs211 := ⟨fun x h => (by cases h), aE208, aE210⟩
theorem aE212 : T.AllI (fun n (_ : Unit) => Tryz.prog.stoodInHeld n = false ∧ Tryz.prog.eqGuardType Tryz.prog.depth n = false) 256 298 tEqs212 := ⟨fun x h => (by cases h; exact ⟨Tryz.stoodInHeld298, Tryz.eqGuardType298⟩), trivial, trivial⟩
theorem aE213 : T.AllI (fun n (_ : Unit) => Tryz.prog.stoodInHeld n = false ∧ Tryz.prog.eqGuardType Tryz.prog.depth n = false) 128 170 tEqs213 := ⟨fun x h => (by cases h), aE212, trivial⟩
theorem aE214 : T.AllI (fun n (_ : Unit) => Tryz.prog.stoodInHeld n = false ∧ Tryz.prog.eqGuardType Tryz.prog.depth n = false) 128 234 tEqs214 := ⟨fun x h => (by cases h; exact ⟨Tryz.stoodInHeld234, Tryz.eqGuardType234⟩), trivial, trivial⟩
theorem aE215 : T.AllI (fun n (_ : Unit) => Tryz.prog.stoodInHeld n = false ∧ Tryz.prog.eqGuardType Tryz.prog.depth n = false) 64 106 tEqs215 := ⟨fun x h => (by cases h), aE213, aE214⟩
theorem aE216 : T.AllI (fun n (_ : Unit) => Tryz.prog.stoodInHeld n = false ∧ Tryz.prog.eqGuardType Tryz.prog.depth n = false) 32 42 tEqs216 := ⟨fun x h => (by cases h), aE211, aE215⟩
theorem aE217 : T.AllI (fun n (_ : Unit) => Tryz.prog.stoodInHeld n = false ∧ Tryz.prog.eqGuardType Tryz.prog.depth n = false) 256 282 tEqs217 := ⟨fun x h => (by cases h; exact ⟨Tryz.stoodInHeld282, Tryz.eqGuardType282⟩), trivial, trivial⟩
theorem aE218 : T.AllI (fun n (_ : Unit) => Tryz.prog.stoodInHeld n = false ∧ Tryz.prog.eqGuardType Tryz.prog.depth n = false) 128 154 tEqs218 := ⟨fun x h => (by cases h), aE217, trivial⟩
theorem aE219 : T.AllI (fun n (_ : Unit) => Tryz.prog.stoodInHeld n = false ∧ Tryz.prog.eqGuardType Tryz.prog.depth n = false) 64 90 tEqs219 := ⟨fun x h => (by cases h), aE218, trivial⟩
theorem aE220 : T.AllI (fun n (_ : Unit) => Tryz.prog.stoodInHeld n = false ∧ Tryz.prog.eqGuardType Tryz.prog.depth n = false) 256 314 tEqs220 := ⟨fun x h => (by cases h; exact ⟨Tryz.stoodInHeld314, Tryz.eqGuardType314⟩), trivial, trivial⟩
theorem aE221 : T.AllI (fun n (_ : Unit) => Tryz.prog.stoodInHeld n = false ∧ Tryz.prog.eqGuardType Tryz.prog.depth n = false) 256 442 tEqs221 := ⟨fun x h => (by cases h; exact ⟨Tryz.stoodInHeld442, Tryz.eqGuardType442⟩), trivial, trivial⟩
theorem aE222 : T.AllI (fun n (_ : Unit) => Tryz.prog.stoodInHeld n = false ∧ Tryz.prog.eqGuardType Tryz.prog.depth n = false) 128 186 tEqs222 := ⟨fun x h => (by cases h; exact ⟨Tryz.stoodInHeld186, Tryz.eqGuardType186⟩), aE220, aE221⟩
theorem aE223 : T.AllI (fun n (_ : Unit) => Tryz.prog.stoodInHeld n = false ∧ Tryz.prog.eqGuardType Tryz.prog.depth n = false) 64 122 tEqs223 := ⟨fun x h => (by cases h; exact ⟨Tryz.stoodInHeld122, Tryz.eqGuardType122⟩), aE222, trivial⟩
theorem aE224 : T.AllI (fun n (_ : Unit) => Tryz.prog.stoodInHeld n = false ∧ Tryz.prog.eqGuardType Tryz.prog.depth n = false) 32 58 tEqs224 := ⟨fun x h => (by cases h), aE219, aE223⟩
theorem aE225 : T.AllI (fun n (_ : Unit) => Tryz.prog.stoodInHeld n = false ∧ Tryz.prog.eqGuardType Tryz.prog.depth n = false) 16 26 tEqs225 := ⟨fun x h => (by cases h), aE216, aE224⟩
theorem aE226 : T.AllI (fun n (_ : Unit) => Tryz.prog.stoodInHeld n = false ∧ Tryz.prog.eqGuardType Tryz.prog.depth n = false) 8 10 tEqs226 := ⟨fun x h => (by cases h), aE206, aE225⟩
theorem aE227 : T.AllI (fun n (_ : Unit) => Tryz.prog.stoodInHeld n = false ∧ Tryz.prog.eqGuardType Tryz.prog.depth n = false) 256 390 tEqs227 := ⟨fun x h => (by cases h; exact ⟨Tryz.stoodInHeld390, Tryz.eqGuardType390⟩), trivial, trivial⟩
theorem aE228 : T.AllI (fun n (_ : Unit) => Tryz.prog.stoodInHeld n = false ∧ Tryz.prog.eqGuardType Tryz.prog.depth n = false) 128 134 tEqs228 := ⟨fun x h => (by cases h), trivial, aE227⟩
theorem aE229 : T.AllI (fun n (_ : Unit) => Tryz.prog.stoodInHeld n = false ∧ Tryz.prog.eqGuardType Tryz.prog.depth n = false) 256 326 tEqs229 := ⟨fun x h => (by cases h; exact ⟨(show Tryz.prog.stoodInHeld 326 = false by kernel_rfl), Tryz.eqGuardType326⟩), trivial, trivial⟩
theorem aE230 : T.AllI (fun n (_ : Unit) => Tryz.prog.stoodInHeld n = false ∧ Tryz.prog.eqGuardType Tryz.prog.depth n = false) 128 198 tEqs230 := ⟨fun x h => (by cases h), aE229, trivial⟩
theorem aE231 : T.AllI (fun n (_ : Unit) => Tryz.prog.stoodInHeld n = false ∧ Tryz.prog.eqGuardType Tryz.prog.depth n = false) 64 70 tEqs231 := ⟨fun x h => (by cases h; exact ⟨Tryz.stoodInHeld70, Tryz.eqGuardType70⟩), aE228, aE230⟩
theorem aE232 : T.AllI (fun n (_ : Unit) => Tryz.prog.stoodInHeld n = false ∧ Tryz.prog.eqGuardType Tryz.prog.depth n = false) 128 166 tEqs232 := ⟨fun x h => (by cases h; exact ⟨Tryz.stoodInHeld166, Tryz.eqGuardType166⟩), trivial, trivial⟩
theorem aE233 : T.AllI (fun n (_ : Unit) => Tryz.prog.stoodInHeld n = false ∧ Tryz.prog.eqGuardType Tryz.prog.depth n = false) 64 102 tEqs233 := ⟨fun x h => (by cases h), aE232, trivial⟩
theorem aE234 : T.AllI (fun n (_ : Unit) => Tryz.prog.stoodInHeld n = false ∧ Tryz.prog.eqGuardType Tryz.prog.depth n = false) 32 38 tEqs234 := ⟨fun x h => (by cases h; exact ⟨Tryz.stoodInHeld38, Tryz.eqGuardType38⟩), aE231, aE233⟩
theorem aE235 : T.AllI (fun n (_ : Unit) => Tryz.prog.stoodInHeld n = false ∧ Tryz.prog.eqGuardType Tryz.prog.depth n = false) 128 150 tEqs235 := ⟨fun x h => (by cases h; exact ⟨Tryz.stoodInHeld150, Tryz.eqGuardType150⟩), trivial, trivial⟩
theorem aE236 : T.AllI (fun n (_ : Unit) => Tryz.prog.stoodInHeld n = false ∧ Tryz.prog.eqGuardType Tryz.prog.depth n = false) 128 214 tEqs236 := ⟨fun x h => (by cases h; exact ⟨Tryz.stoodInHeld214, Tryz.eqGuardType214⟩), trivial, trivial⟩
theorem aE237 : T.AllI (fun n (_ : Unit) => Tryz.prog.stoodInHeld n = false ∧ Tryz.prog.eqGuardType Tryz.prog.depth n = false) 64 86 tEqs237 := ⟨fun x h => (by cases h), aE235, aE236⟩
theorem aE238 : T.AllI (fun n (_ : Unit) => Tryz.prog.stoodInHeld n = false ∧ Tryz.prog.eqGuardType Tryz.prog.depth n = false) 256 310 tEqs238 := ⟨fun x h => (by cases h; exact ⟨(show Tryz.prog.stoodInHeld 310 = false by kernel_rfl), Tryz.eqGuardType310⟩), trivial, trivial⟩
theorem aE239 : T.AllI (fun n (_ : Unit) => Tryz.prog.stoodInHeld n = false ∧ Tryz.prog.eqGuardType Tryz.prog.depth n = false) 128 182 tEqs239 := ⟨fun x h => (by cases h; exact ⟨Tryz.stoodInHeld182, Tryz.eqGuardType182⟩), aE238, trivial⟩
theorem aE240 : T.AllI (fun n (_ : Unit) => Tryz.prog.stoodInHeld n = false ∧ Tryz.prog.eqGuardType Tryz.prog.depth n = false) 64 118 tEqs240 := ⟨fun x h => (by cases h), aE239, trivial⟩
theorem aE241 : T.AllI (fun n (_ : Unit) => Tryz.prog.stoodInHeld n = false ∧ Tryz.prog.eqGuardType Tryz.prog.depth n = false) 32 54 tEqs241 := ⟨fun x h => (by cases h), aE237, aE240⟩
theorem aE242 : T.AllI (fun n (_ : Unit) => Tryz.prog.stoodInHeld n = false ∧ Tryz.prog.eqGuardType Tryz.prog.depth n = false) 16 22 tEqs242 := ⟨fun x h => (by cases h; exact ⟨(show Tryz.prog.stoodInHeld 22 = false by kernel_rfl), Tryz.eqGuardType22⟩), aE234, aE241⟩
theorem aE243 : T.AllI (fun n (_ : Unit) => Tryz.prog.stoodInHeld n = false ∧ Tryz.prog.eqGuardType Tryz.prog.depth n = false) 256 270 tEqs243 := ⟨fun x h => (by cases h; exact ⟨Tryz.stoodInHeld270, Tryz.eqGuardType270⟩), trivial, trivial⟩
theorem aE244 : T.AllI (fun n (_ : Unit) => Tryz.prog.stoodInHeld n = false ∧ Tryz.prog.eqGuardType Tryz.prog.depth n = false) 128 142 tEqs244 := ⟨fun x h => (by cases h; exact ⟨Tryz.stoodInHeld142, Tryz.eqGuardType142⟩), aE243, trivial⟩
theorem aE245 : T.AllI (fun n (_ : Unit) => Tryz.prog.stoodInHeld n = false ∧ Tryz.prog.eqGuardType Tryz.prog.depth n = false) 256 334 tEqs245 := ⟨fun x h => (by cases h; exact ⟨Tryz.stoodInHeld334, Tryz.eqGuardType334⟩), trivial, trivial⟩
theorem aE246 : T.AllI (fun n (_ : Unit) => Tryz.prog.stoodInHeld n = false ∧ Tryz.prog.eqGuardType Tryz.prog.depth n = false) 128 206 tEqs246 := ⟨fun x h => (by cases h; exact ⟨Tryz.stoodInHeld206, Tryz.eqGuardType206⟩), aE245, trivial⟩
theorem aE247 : T.AllI (fun n (_ : Unit) => Tryz.prog.stoodInHeld n = false ∧ Tryz.prog.eqGuardType Tryz.prog.depth n = false) 64 78 tEqs247 := ⟨fun x h => (by cases h), aE244, aE246⟩
theorem aE248 : T.AllI (fun n (_ : Unit) => Tryz.prog.stoodInHeld n = false ∧ Tryz.prog.eqGuardType Tryz.prog.depth n = false) 256 430 tEqs248 := ⟨fun x h => (by cases h; exact ⟨Tryz.stoodInHeld430, Tryz.eqGuardType430⟩), trivial, trivial⟩
theorem aE249 : T.AllI (fun n (_ : Unit) => Tryz.prog.stoodInHeld n = false ∧ Tryz.prog.eqGuardType Tryz.prog.depth n = false) 128 174 tEqs249 := ⟨fun x h => (by cases h), trivial, aE248⟩
theorem aE250 : T.AllI (fun n (_ : Unit) => Tryz.prog.stoodInHeld n = false ∧ Tryz.prog.eqGuardType Tryz.prog.depth n = false) 64 110 tEqs250 := ⟨fun x h => (by cases h), aE249, trivial⟩
theorem aE251 : T.AllI (fun n (_ : Unit) => Tryz.prog.stoodInHeld n = false ∧ Tryz.prog.eqGuardType Tryz.prog.depth n = false) 32 46 tEqs251 := ⟨fun x h => (by cases h), aE247, aE250⟩
theorem aE252 : T.AllI (fun n (_ : Unit) => Tryz.prog.stoodInHeld n = false ∧ Tryz.prog.eqGuardType Tryz.prog.depth n = false) 256 286 tEqs252 := ⟨fun x h => (by cases h; exact ⟨Tryz.stoodInHeld286, Tryz.eqGuardType286⟩), trivial, trivial⟩
theorem aE253 : T.AllI (fun n (_ : Unit) => Tryz.prog.stoodInHeld n = false ∧ Tryz.prog.eqGuardType Tryz.prog.depth n = false) 128 158 tEqs253 := ⟨fun x h => (by cases h), aE252, trivial⟩
theorem aE254 : T.AllI (fun n (_ : Unit) => Tryz.prog.stoodInHeld n = false ∧ Tryz.prog.eqGuardType Tryz.prog.depth n = false) 64 94 tEqs254 := ⟨fun x h => (by cases h), aE253, trivial⟩
theorem aE255 : T.AllI (fun n (_ : Unit) => Tryz.prog.stoodInHeld n = false ∧ Tryz.prog.eqGuardType Tryz.prog.depth n = false) 32 62 tEqs255 := ⟨fun x h => (by cases h), aE254, trivial⟩
theorem aE256 : T.AllI (fun n (_ : Unit) => Tryz.prog.stoodInHeld n = false ∧ Tryz.prog.eqGuardType Tryz.prog.depth n = false) 16 30 tEqs256 := ⟨fun x h => (by cases h), aE251, aE255⟩
theorem aE257 : T.AllI (fun n (_ : Unit) => Tryz.prog.stoodInHeld n = false ∧ Tryz.prog.eqGuardType Tryz.prog.depth n = false) 8 14 tEqs257 := ⟨fun x h => (by cases h), aE242, aE256⟩
theorem aE258 : T.AllI (fun n (_ : Unit) => Tryz.prog.stoodInHeld n = false ∧ Tryz.prog.eqGuardType Tryz.prog.depth n = false) 4 6 tEqs258 := ⟨fun x h => (by cases h), aE226, aE257⟩
theorem aE259 : T.AllI (fun n (_ : Unit) => Tryz.prog.stoodInHeld n = false ∧ Tryz.prog.eqGuardType Tryz.prog.depth n = false) 2 2 tEqs259 := ⟨fun x h => (by cases h), aE197, aE258⟩
theorem aE260 : T.AllI (fun n (_ : Unit) => Tryz.prog.stoodInHeld n = false ∧ Tryz.prog.eqGuardType Tryz.prog.depth n = false) 1 0 tEqs260 := ⟨fun x h => (by cases h), aE130, aE259⟩
theorem tok : TabOk Tryz.prog tab := tabOk_of aT649 aF295 aE260 (by kernel_rfl)
theorem zok : ZerosOk tab := zerosOk_of aZ649
theorem fok : FnsOk tab 0 := fnsOk_of aO295
end Go.Ac
