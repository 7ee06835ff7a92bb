/-
  Part FactsA of the proof: a deterministic evaluator of the machine, its soundness, and what it gives for this seat.
-/
import Derived.Test.YtcncbfgplikphaaGreatTabs
import Derived.Test.YtcncbfgplikphaaGreatEvD
import Derived.KernelRfl
open Go.Proofs
namespace Go.Ac
theorem info_of {P : Program} {t : TypeId} {i : TypeInfo} (h : P.types[t]? = some i) : P.info? t = some i := by
  unfold Tables.info?
  rw [if_pos (Array.getElem?_eq_some_iff.1 h).1]
  exact h
theorem aT0 : T.AllI (fun n i => Tryz.prog.info? n = some i) 512 511 tTypes0 := ⟨fun x h => (by cases h; exact info_of Tryz.type511), trivial, trivial⟩
theorem aZ0 : T.AllI (fun _ i => zeroB i = true) 512 511 tTypes0 := ⟨fun x h => (by cases h; exact (show zeroB Tryz.t511 = true by kernel_rfl)), trivial, trivial⟩
theorem aT1 : T.AllI (fun n i => Tryz.prog.info? n = some i) 256 255 tTypes1 := ⟨fun x h => (by cases h; exact info_of Tryz.type255), aT0, trivial⟩
theorem aZ1 : T.AllI (fun _ i => zeroB i = true) 256 255 tTypes1 := ⟨fun x h => (by cases h; exact (show zeroB Tryz.t255 = true by kernel_rfl)), aZ0, trivial⟩
theorem aT2 : T.AllI (fun n i => Tryz.prog.info? n = some i) 512 639 tTypes2 := ⟨fun x h => (by cases h; exact info_of Tryz.type639), trivial, trivial⟩
theorem aZ2 : T.AllI (fun _ i => zeroB i = true) 512 639 tTypes2 := ⟨fun x h => (by cases h; exact (show zeroB Tryz.t639 = true by kernel_rfl)), trivial, trivial⟩
theorem aT3 : T.AllI (fun n i => Tryz.prog.info? n = some i) 256 383 tTypes3 := ⟨fun x h => (by cases h; exact info_of Tryz.type383), aT2, trivial⟩
theorem aZ3 : T.AllI (fun _ i => zeroB i = true) 256 383 tTypes3 := ⟨fun x h => (by cases h; exact (show zeroB Tryz.t383 = true by kernel_rfl)), aZ2, trivial⟩
theorem aT4 : T.AllI (fun n i => Tryz.prog.info? n = some i) 128 127 tTypes4 := ⟨fun x h => (by cases h; exact info_of Tryz.type127), aT1, aT3⟩
theorem aZ4 : T.AllI (fun _ i => zeroB i = true) 128 127 tTypes4 := ⟨fun x h => (by cases h; exact (show zeroB Tryz.t127 = true by kernel_rfl)), aZ1, aZ3⟩
theorem aT5 : T.AllI (fun n i => Tryz.prog.info? n = some i) 512 575 tTypes5 := ⟨fun x h => (by cases h; exact info_of Tryz.type575), trivial, trivial⟩
theorem aZ5 : T.AllI (fun _ i => zeroB i = true) 512 575 tTypes5 := ⟨fun x h => (by cases h; exact (show zeroB Tryz.t575 = true by kernel_rfl)), trivial, trivial⟩
theorem aT6 : T.AllI (fun n i => Tryz.prog.info? n = some i) 256 319 tTypes6 := ⟨fun x h => (by cases h; exact info_of Tryz.type319), aT5, trivial⟩
theorem aZ6 : T.AllI (fun _ i => zeroB i = true) 256 319 tTypes6 := ⟨fun x h => (by cases h; exact (show zeroB Tryz.t319 = true by kernel_rfl)), aZ5, trivial⟩
theorem aT7 : T.AllI (fun n i => Tryz.prog.info? n = some i) 256 447 tTypes7 := ⟨fun x h => (by cases h; exact info_of Tryz.type447), trivial, trivial⟩
theorem aZ7 : T.AllI (fun _ i => zeroB i = true) 256 447 tTypes7 := ⟨fun x h => (by cases h; exact (show zeroB Tryz.t447 = true by kernel_rfl)), trivial, trivial⟩
theorem aT8 : T.AllI (fun n i => Tryz.prog.info? n = some i) 128 191 tTypes8 := ⟨fun x h => (by cases h; exact info_of Tryz.type191), aT6, aT7⟩
theorem aZ8 : T.AllI (fun _ i => zeroB i = true) 128 191 tTypes8 := ⟨fun x h => (by cases h; exact (show zeroB Tryz.t191 = true by kernel_rfl)), aZ6, aZ7⟩
theorem aT9 : T.AllI (fun n i => Tryz.prog.info? n = some i) 64 63 tTypes9 := ⟨fun x h => (by cases h; exact info_of Tryz.type63), aT4, aT8⟩
theorem aZ9 : T.AllI (fun _ i => zeroB i = true) 64 63 tTypes9 := ⟨fun x h => (by cases h; exact (show zeroB Tryz.t63 = true by kernel_rfl)), aZ4, aZ8⟩
theorem aT10 : T.AllI (fun n i => Tryz.prog.info? n = some i) 512 543 tTypes10 := ⟨fun x h => (by cases h; exact info_of Tryz.type543), trivial, trivial⟩
theorem aZ10 : T.AllI (fun _ i => zeroB i = true) 512 543 tTypes10 := ⟨fun x h => (by cases h; exact (show zeroB Tryz.t543 = true by kernel_rfl)), trivial, trivial⟩
theorem aT11 : T.AllI (fun n i => Tryz.prog.info? n = some i) 256 287 tTypes11 := ⟨fun x h => (by cases h; exact info_of Tryz.type287), aT10, trivial⟩
theorem aZ11 : T.AllI (fun _ i => zeroB i = true) 256 287 tTypes11 := ⟨fun x h => (by cases h; exact (show zeroB Tryz.t287 = true by kernel_rfl)), aZ10, trivial⟩
theorem aT12 : T.AllI (fun n i => Tryz.prog.info? n = some i) 256 415 tTypes12 := ⟨fun x h => (by cases h; exact info_of Tryz.type415), trivial, trivial⟩
theorem aZ12 : T.AllI (fun _ i => zeroB i = true) 256 415 tTypes12 := ⟨fun x h => (by cases h; exact (show zeroB Tryz.t415 = true by kernel_rfl)), trivial, trivial⟩
theorem aT13 : T.AllI (fun n i => Tryz.prog.info? n = some i) 128 159 tTypes13 := ⟨fun x h => (by cases h; exact info_of Tryz.type159), aT11, aT12⟩
theorem aZ13 : T.AllI (fun _ i => zeroB i = true) 128 159 tTypes13 := ⟨fun x h => (by cases h; exact (show zeroB Tryz.t159 = true by kernel_rfl)), aZ11, aZ12⟩
theorem aT14 : T.AllI (fun n i => Tryz.prog.info? n = some i) 512 607 tTypes14 := ⟨fun x h => (by cases h; exact info_of Tryz.type607), trivial, trivial⟩
theorem aZ14 : T.AllI (fun _ i => zeroB i = true) 512 607 tTypes14 := ⟨fun x h => (by cases h; exact (show zeroB Tryz.t607 = true by kernel_rfl)), trivial, trivial⟩
theorem aT15 : T.AllI (fun n i => Tryz.prog.info? n = some i) 256 351 tTypes15 := ⟨fun x h => (by cases h; exact info_of Tryz.type351), aT14, trivial⟩
theorem aZ15 : T.AllI (fun _ i => zeroB i = true) 256 351 tTypes15 := ⟨fun x h => (by cases h; exact (show zeroB Tryz.t351 = true by kernel_rfl)), aZ14, trivial⟩
theorem aT16 : T.AllI (fun n i => Tryz.prog.info? n = some i) 256 479 tTypes16 := ⟨fun x h => (by cases h; exact info_of Tryz.type479), trivial, trivial⟩
theorem aZ16 : T.AllI (fun _ i => zeroB i = true) 256 479 tTypes16 := ⟨fun x h => (by cases h; exact (show zeroB Tryz.t479 = true by kernel_rfl)), trivial, trivial⟩
theorem aT17 : T.AllI (fun n i => Tryz.prog.info? n = some i) 128 223 tTypes17 := ⟨fun x h => (by cases h; exact info_of Tryz.type223), aT15, aT16⟩
theorem aZ17 : T.AllI (fun _ i => zeroB i = true) 128 223 tTypes17 := ⟨fun x h => (by cases h; exact (show zeroB Tryz.t223 = true by kernel_rfl)), aZ15, aZ16⟩
theorem aT18 : T.AllI (fun n i => Tryz.prog.info? n = some i) 64 95 tTypes18 := ⟨fun x h => (by cases h; exact info_of Tryz.type95), aT13, aT17⟩
theorem aZ18 : T.AllI (fun _ i => zeroB i = true) 64 95 tTypes18 := ⟨fun x h => (by cases h; exact (show zeroB Tryz.t95 = true by kernel_rfl)), aZ13, aZ17⟩
theorem aT19 : T.AllI (fun n i => Tryz.prog.info? n = some i) 32 31 tTypes19 := ⟨fun x h => (by cases h; exact info_of Tryz.type31), aT9, aT18⟩
theorem aZ19 : T.AllI (fun _ i => zeroB i = true) 32 31 tTypes19 := ⟨fun x h => (by cases h; exact (show zeroB Tryz.t31 = true by kernel_rfl)), aZ9, aZ18⟩
theorem aT20 : T.AllI (fun n i => Tryz.prog.info? n = some i) 512 527 tTypes20 := ⟨fun x h => (by cases h; exact info_of Tryz.type527), trivial, trivial⟩
theorem aZ20 : T.AllI (fun _ i => zeroB i = true) 512 527 tTypes20 := ⟨fun x h => (by cases h; exact (show zeroB Tryz.t527 = true by kernel_rfl)), trivial, trivial⟩
theorem aT21 : T.AllI (fun n i => Tryz.prog.info? n = some i) 256 271 tTypes21 := ⟨fun x h => (by cases h; exact info_of Tryz.type271), aT20, trivial⟩
theorem aZ21 : T.AllI (fun _ i => zeroB i = true) 256 271 tTypes21 := ⟨fun x h => (by cases h; exact (show zeroB Tryz.t271 = true by kernel_rfl)), aZ20, trivial⟩
theorem aT22 : T.AllI (fun n i => Tryz.prog.info? n = some i) 256 399 tTypes22 := ⟨fun x h => (by cases h; exact info_of Tryz.type399), trivial, trivial⟩
theorem aZ22 : T.AllI (fun _ i => zeroB i = true) 256 399 tTypes22 := ⟨fun x h => (by cases h; exact (show zeroB Tryz.t399 = true by kernel_rfl)), trivial, trivial⟩
theorem aT23 : T.AllI (fun n i => Tryz.prog.info? n = some i) 128 143 tTypes23 := ⟨fun x h => (by cases h; exact info_of Tryz.type143), aT21, aT22⟩
theorem aZ23 : T.AllI (fun _ i => zeroB i = true) 128 143 tTypes23 := ⟨fun x h => (by cases h; exact (show zeroB Tryz.t143 = true by kernel_rfl)), aZ21, aZ22⟩
theorem aT24 : T.AllI (fun n i => Tryz.prog.info? n = some i) 512 591 tTypes24 := ⟨fun x h => (by cases h; exact info_of Tryz.type591), trivial, trivial⟩
theorem aZ24 : T.AllI (fun _ i => zeroB i = true) 512 591 tTypes24 := ⟨fun x h => (by cases h; exact (show zeroB Tryz.t591 = true by kernel_rfl)), trivial, trivial⟩
theorem aT25 : T.AllI (fun n i => Tryz.prog.info? n = some i) 256 335 tTypes25 := ⟨fun x h => (by cases h; exact info_of Tryz.type335), aT24, trivial⟩
theorem aZ25 : T.AllI (fun _ i => zeroB i = true) 256 335 tTypes25 := ⟨fun x h => (by cases h; exact (show zeroB Tryz.t335 = true by kernel_rfl)), aZ24, trivial⟩
theorem aT26 : T.AllI (fun n i => Tryz.prog.info? n = some i) 256 463 tTypes26 := ⟨fun x h => (by cases h; exact info_of Tryz.type463), trivial, trivial⟩
theorem aZ26 : T.AllI (fun _ i => zeroB i = true) 256 463 tTypes26 := ⟨fun x h => (by cases h; exact (show zeroB Tryz.t463 = true by kernel_rfl)), trivial, trivial⟩
theorem aT27 : T.AllI (fun n i => Tryz.prog.info? n = some i) 128 207 tTypes27 := ⟨fun x h => (by cases h; exact info_of Tryz.type207), aT25, aT26⟩
theorem aZ27 : T.AllI (fun _ i => zeroB i = true) 128 207 tTypes27 := ⟨fun x h => (by cases h; exact (show zeroB Tryz.t207 = true by kernel_rfl)), aZ25, aZ26⟩
theorem aT28 : T.AllI (fun n i => Tryz.prog.info? n = some i) 64 79 tTypes28 := ⟨fun x h => (by cases h; exact info_of Tryz.type79), aT23, aT27⟩
theorem aZ28 : T.AllI (fun _ i => zeroB i = true) 64 79 tTypes28 := ⟨fun x h => (by cases h; exact (show zeroB Tryz.t79 = true by kernel_rfl)), aZ23, aZ27⟩
theorem aT29 : T.AllI (fun n i => Tryz.prog.info? n = some i) 512 559 tTypes29 := ⟨fun x h => (by cases h; exact info_of Tryz.type559), trivial, trivial⟩
theorem aZ29 : T.AllI (fun _ i => zeroB i = true) 512 559 tTypes29 := ⟨fun x h => (by cases h; exact (show zeroB Tryz.t559 = true by kernel_rfl)), trivial, trivial⟩
theorem aT30 : T.AllI (fun n i => Tryz.prog.info? n = some i) 256 303 tTypes30 := ⟨fun x h => (by cases h; exact info_of Tryz.type303), aT29, trivial⟩
theorem aZ30 : T.AllI (fun _ i => zeroB i = true) 256 303 tTypes30 := ⟨fun x h => (by cases h; exact (show zeroB Tryz.t303 = true by kernel_rfl)), aZ29, trivial⟩
theorem aT31 : T.AllI (fun n i => Tryz.prog.info? n = some i) 256 431 tTypes31 := ⟨fun x h => (by cases h; exact info_of Tryz.type431), trivial, trivial⟩
theorem aZ31 : T.AllI (fun _ i => zeroB i = true) 256 431 tTypes31 := ⟨fun x h => (by cases h; exact (show zeroB Tryz.t431 = true by kernel_rfl)), trivial, trivial⟩
theorem aT32 : T.AllI (fun n i => Tryz.prog.info? n = some i) 128 175 tTypes32 := ⟨fun x h => (by cases h; exact info_of Tryz.type175), aT30, aT31⟩
theorem aZ32 : T.AllI (fun _ i => zeroB i = true) 128 175 tTypes32 := ⟨fun x h => (by cases h; exact (show zeroB Tryz.t175 = true by kernel_rfl)), aZ30, aZ31⟩
theorem aT33 : T.AllI (fun n i => Tryz.prog.info? n = some i) 512 623 tTypes33 := ⟨fun x h => (by cases h; exact info_of Tryz.type623), trivial, trivial⟩
theorem aZ33 : T.AllI (fun _ i => zeroB i = true) 512 623 tTypes33 := ⟨fun x h => (by cases h; exact (show zeroB Tryz.t623 = true by kernel_rfl)), trivial, trivial⟩
theorem aT34 : T.AllI (fun n i => Tryz.prog.info? n = some i) 256 367 tTypes34 := ⟨fun x h => (by cases h; exact info_of Tryz.type367), aT33, trivial⟩
theorem aZ34 : T.AllI (fun _ i => zeroB i = true) 256 367 tTypes34 := ⟨fun x h => (by cases h; exact (show zeroB Tryz.t367 = true by kernel_rfl)), aZ33, trivial⟩
theorem aT35 : T.AllI (fun n i => Tryz.prog.info? n = some i) 256 495 tTypes35 := ⟨fun x h => (by cases h; exact info_of Tryz.type495), trivial, trivial⟩
theorem aZ35 : T.AllI (fun _ i => zeroB i = true) 256 495 tTypes35 := ⟨fun x h => (by cases h; exact (show zeroB Tryz.t495 = true by kernel_rfl)), trivial, trivial⟩
theorem aT36 : T.AllI (fun n i => Tryz.prog.info? n = some i) 128 239 tTypes36 := ⟨fun x h => (by cases h; exact info_of Tryz.type239), aT34, aT35⟩
theorem aZ36 : T.AllI (fun _ i => zeroB i = true) 128 239 tTypes36 := ⟨fun x h => (by cases h; exact (show zeroB Tryz.t239 = true by kernel_rfl)), aZ34, aZ35⟩
theorem aT37 : T.AllI (fun n i => Tryz.prog.info? n = some i) 64 111 tTypes37 := ⟨fun x h => (by cases h; exact info_of Tryz.type111), aT32, aT36⟩
theorem aZ37 : T.AllI (fun _ i => zeroB i = true) 64 111 tTypes37 := ⟨fun x h => (by cases h; exact (show zeroB Tryz.t111 = true by kernel_rfl)), aZ32, aZ36⟩
theorem aT38 : T.AllI (fun n i => Tryz.prog.info? n = some i) 32 47 tTypes38 := ⟨fun x h => (by cases h; exact info_of Tryz.type47), aT28, aT37⟩
theorem aZ38 : T.AllI (fun _ i => zeroB i = true) 32 47 tTypes38 := ⟨fun x h => (by cases h; exact (show zeroB Tryz.t47 = true by kernel_rfl)), aZ28, aZ37⟩
theorem aT39 : T.AllI (fun n i => Tryz.prog.info? n = some i) 16 15 tTypes39 := ⟨fun x h => (by cases h; exact info_of Tryz.type15), aT19, aT38⟩
theorem aZ39 : T.AllI (fun _ i => zeroB i = true) 16 15 tTypes39 := ⟨fun x h => (by cases h; exact (show zeroB Tryz.t15 = true by kernel_rfl)), aZ19, aZ38⟩
theorem aT40 : T.AllI (fun n i => Tryz.prog.info? n = some i) 512 519 tTypes40 := ⟨fun x h => (by cases h; exact info_of Tryz.type519), trivial, trivial⟩
theorem aZ40 : T.AllI (fun _ i => zeroB i = true) 512 519 tTypes40 := ⟨fun x h => (by cases h; exact (show zeroB Tryz.t519 = true by kernel_rfl)), trivial, trivial⟩
theorem aT41 : T.AllI (fun n i => Tryz.prog.info? n = some i) 256 263 tTypes41 := ⟨fun x h => (by cases h; exact info_of Tryz.type263), aT40, trivial⟩
theorem aZ41 : T.AllI (fun _ i => zeroB i = true) 256 263 tTypes41 := ⟨fun x h => (by cases h; exact (show zeroB Tryz.t263 = true by kernel_rfl)), aZ40, trivial⟩
theorem aT42 : T.AllI (fun n i => Tryz.prog.info? n = some i) 512 647 tTypes42 := ⟨fun x h => (by cases h; exact info_of Tryz.type647), trivial, trivial⟩
theorem aZ42 : T.AllI (fun _ i => zeroB i = true) 512 647 tTypes42 := ⟨fun x h => (by cases h; exact (show zeroB Tryz.t647 = true by kernel_rfl)), trivial, trivial⟩
theorem aT43 : T.AllI (fun n i => Tryz.prog.info? n = some i) 256 391 tTypes43 := ⟨fun x h => (by cases h; exact info_of Tryz.type391), aT42, trivial⟩
theorem aZ43 : T.AllI (fun _ i => zeroB i = true) 256 391 tTypes43 := ⟨fun x h => (by cases h; exact (show zeroB Tryz.t391 = true by kernel_rfl)), aZ42, trivial⟩
theorem aT44 : T.AllI (fun n i => Tryz.prog.info? n = some i) 128 135 tTypes44 := ⟨fun x h => (by cases h; exact info_of Tryz.type135), aT41, aT43⟩
theorem aZ44 : T.AllI (fun _ i => zeroB i = true) 128 135 tTypes44 := ⟨fun x h => (by cases h; exact (show zeroB Tryz.t135 = true by kernel_rfl)), aZ41, aZ43⟩
theorem aT45 : T.AllI (fun n i => Tryz.prog.info? n = some i) 512 583 tTypes45 := ⟨fun x h => (by cases h; exact info_of Tryz.type583), trivial, trivial⟩
theorem aZ45 : T.AllI (fun _ i => zeroB i = true) 512 583 tTypes45 := ⟨fun x h => (by cases h; exact (show zeroB Tryz.t583 = true by kernel_rfl)), trivial, trivial⟩
theorem aT46 : T.AllI (fun n i => Tryz.prog.info? n = some i) 256 327 tTypes46 := ⟨fun x h => (by cases h; exact info_of Tryz.type327), aT45, trivial⟩
theorem aZ46 : T.AllI (fun _ i => zeroB i = true) 256 327 tTypes46 := ⟨fun x h => (by cases h; exact (show zeroB Tryz.t327 = true by kernel_rfl)), aZ45, trivial⟩
theorem aT47 : T.AllI (fun n i => Tryz.prog.info? n = some i) 256 455 tTypes47 := ⟨fun x h => (by cases h; exact info_of Tryz.type455), trivial, trivial⟩
theorem aZ47 : T.AllI (fun _ i => zeroB i = true) 256 455 tTypes47 := ⟨fun x h => (by cases h; exact (show zeroB Tryz.t455 = true by kernel_rfl)), trivial, trivial⟩
theorem aT48 : T.AllI (fun n i => Tryz.prog.info? n = some i) 128 199 tTypes48 := ⟨fun x h => (by cases h; exact info_of Tryz.type199), aT46, aT47⟩
theorem aZ48 : T.AllI (fun _ i => zeroB i = true) 128 199 tTypes48 := ⟨fun x h => (by cases h; exact (show zeroB Tryz.t199 = true by kernel_rfl)), aZ46, aZ47⟩
theorem aT49 : T.AllI (fun n i => Tryz.prog.info? n = some i) 64 71 tTypes49 := ⟨fun x h => (by cases h; exact info_of Tryz.type71), aT44, aT48⟩
theorem aZ49 : T.AllI (fun _ i => zeroB i = true) 64 71 tTypes49 := ⟨fun x h => (by cases h; exact (show zeroB Tryz.t71 = true by kernel_rfl)), aZ44, aZ48⟩
theorem aT50 : T.AllI (fun n i => Tryz.prog.info? n = some i) 512 551 tTypes50 := ⟨fun x h => (by cases h; exact info_of Tryz.type551), trivial, trivial⟩
theorem aZ50 : T.AllI (fun _ i => zeroB i = true) 512 551 tTypes50 := ⟨fun x h => (by cases h; exact (show zeroB Tryz.t551 = true by kernel_rfl)), trivial, trivial⟩
theorem aT51 : T.AllI (fun n i => Tryz.prog.info? n = some i) 256 295 tTypes51 := ⟨fun x h => (by cases h; exact info_of Tryz.type295), aT50, trivial⟩
theorem aZ51 : T.AllI (fun _ i => zeroB i = true) 256 295 tTypes51 := ⟨fun x h => (by cases h; exact (show zeroB Tryz.t295 = true by kernel_rfl)), aZ50, trivial⟩
theorem aT52 : T.AllI (fun n i => Tryz.prog.info? n = some i) 256 423 tTypes52 := ⟨fun x h => (by cases h; exact info_of Tryz.type423), trivial, trivial⟩
theorem aZ52 : T.AllI (fun _ i => zeroB i = true) 256 423 tTypes52 := ⟨fun x h => (by cases h; exact (show zeroB Tryz.t423 = true by kernel_rfl)), trivial, trivial⟩
theorem aT53 : T.AllI (fun n i => Tryz.prog.info? n = some i) 128 167 tTypes53 := ⟨fun x h => (by cases h; exact info_of Tryz.type167), aT51, aT52⟩
theorem aZ53 : T.AllI (fun _ i => zeroB i = true) 128 167 tTypes53 := ⟨fun x h => (by cases h; exact (show zeroB Tryz.t167 = true by kernel_rfl)), aZ51, aZ52⟩
theorem aT54 : T.AllI (fun n i => Tryz.prog.info? n = some i) 512 615 tTypes54 := ⟨fun x h => (by cases h; exact info_of Tryz.type615), trivial, trivial⟩
theorem aZ54 : T.AllI (fun _ i => zeroB i = true) 512 615 tTypes54 := ⟨fun x h => (by cases h; exact (show zeroB Tryz.t615 = true by kernel_rfl)), trivial, trivial⟩
theorem aT55 : T.AllI (fun n i => Tryz.prog.info? n = some i) 256 359 tTypes55 := ⟨fun x h => (by cases h; exact info_of Tryz.type359), aT54, trivial⟩
theorem aZ55 : T.AllI (fun _ i => zeroB i = true) 256 359 tTypes55 := ⟨fun x h => (by cases h; exact (show zeroB Tryz.t359 = true by kernel_rfl)), aZ54, trivial⟩
theorem aT56 : T.AllI (fun n i => Tryz.prog.info? n = some i) 256 487 tTypes56 := ⟨fun x h => (by cases h; exact info_of Tryz.type487), trivial, trivial⟩
theorem aZ56 : T.AllI (fun _ i => zeroB i = true) 256 487 tTypes56 := ⟨fun x h => (by cases h; exact (show zeroB Tryz.t487 = true by kernel_rfl)), trivial, trivial⟩
theorem aT57 : T.AllI (fun n i => Tryz.prog.info? n = some i) 128 231 tTypes57 := ⟨fun x h => (by cases h; exact info_of Tryz.type231), aT55, aT56⟩
theorem aZ57 : T.AllI (fun _ i => zeroB i = true) 128 231 tTypes57 := ⟨fun x h => (by cases h; exact (show zeroB Tryz.t231 = true by kernel_rfl)), aZ55, aZ56⟩
theorem aT58 : T.AllI (fun n i => Tryz.prog.info? n = some i) 64 103 tTypes58 := ⟨fun x h => (by cases h; exact info_of Tryz.type103), aT53, aT57⟩
theorem aZ58 : T.AllI (fun _ i => zeroB i = true) 64 103 tTypes58 := ⟨fun x h => (by cases h; exact (show zeroB Tryz.t103 = true by kernel_rfl)), aZ53, aZ57⟩
theorem aT59 : T.AllI (fun n i => Tryz.prog.info? n = some i) 32 39 tTypes59 := ⟨fun x h => (by cases h; exact info_of Tryz.type39), aT49, aT58⟩
theorem aZ59 : T.AllI (fun _ i => zeroB i = true) 32 39 tTypes59 := ⟨fun x h => (by cases h; exact (show zeroB Tryz.t39 = true by kernel_rfl)), aZ49, aZ58⟩
theorem aT60 : T.AllI (fun n i => Tryz.prog.info? n = some i) 512 535 tTypes60 := ⟨fun x h => (by cases h; exact info_of Tryz.type535), trivial, trivial⟩
theorem aZ60 : T.AllI (fun _ i => zeroB i = true) 512 535 tTypes60 := ⟨fun x h => (by cases h; exact (show zeroB Tryz.t535 = true by kernel_rfl)), trivial, trivial⟩
theorem aT61 : T.AllI (fun n i => Tryz.prog.info? n = some i) 256 279 tTypes61 := ⟨fun x h => (by cases h; exact info_of Tryz.type279), aT60, trivial⟩
theorem aZ61 : T.AllI (fun _ i => zeroB i = true) 256 279 tTypes61 := ⟨fun x h => (by cases h; exact (show zeroB Tryz.t279 = true by kernel_rfl)), aZ60, trivial⟩
theorem aT62 : T.AllI (fun n i => Tryz.prog.info? n = some i) 256 407 tTypes62 := ⟨fun x h => (by cases h; exact info_of Tryz.type407), trivial, trivial⟩
theorem aZ62 : T.AllI (fun _ i => zeroB i = true) 256 407 tTypes62 := ⟨fun x h => (by cases h; exact (show zeroB Tryz.t407 = true by kernel_rfl)), trivial, trivial⟩
theorem aT63 : T.AllI (fun n i => Tryz.prog.info? n = some i) 128 151 tTypes63 := ⟨fun x h => (by cases h; exact info_of Tryz.type151), aT61, aT62⟩
theorem aZ63 : T.AllI (fun _ i => zeroB i = true) 128 151 tTypes63 := ⟨fun x h => (by cases h; exact (show zeroB Tryz.t151 = true by kernel_rfl)), aZ61, aZ62⟩
theorem aT64 : T.AllI (fun n i => Tryz.prog.info? n = some i) 512 599 tTypes64 := ⟨fun x h => (by cases h; exact info_of Tryz.type599), trivial, trivial⟩
theorem aZ64 : T.AllI (fun _ i => zeroB i = true) 512 599 tTypes64 := ⟨fun x h => (by cases h; exact (show zeroB Tryz.t599 = true by kernel_rfl)), trivial, trivial⟩
theorem aT65 : T.AllI (fun n i => Tryz.prog.info? n = some i) 256 343 tTypes65 := ⟨fun x h => (by cases h; exact info_of Tryz.type343), aT64, trivial⟩
theorem aZ65 : T.AllI (fun _ i => zeroB i = true) 256 343 tTypes65 := ⟨fun x h => (by cases h; exact (show zeroB Tryz.t343 = true by kernel_rfl)), aZ64, trivial⟩
theorem aT66 : T.AllI (fun n i => Tryz.prog.info? n = some i) 256 471 tTypes66 := ⟨fun x h => (by cases h; exact info_of Tryz.type471), trivial, trivial⟩
theorem aZ66 : T.AllI (fun _ i => zeroB i = true) 256 471 tTypes66 := ⟨fun x h => (by cases h; exact (show zeroB Tryz.t471 = true by kernel_rfl)), trivial, trivial⟩
theorem aT67 : T.AllI (fun n i => Tryz.prog.info? n = some i) 128 215 tTypes67 := ⟨fun x h => (by cases h; exact info_of Tryz.type215), aT65, aT66⟩
theorem aZ67 : T.AllI (fun _ i => zeroB i = true) 128 215 tTypes67 := ⟨fun x h => (by cases h; exact (show zeroB Tryz.t215 = true by kernel_rfl)), aZ65, aZ66⟩
theorem aT68 : T.AllI (fun n i => Tryz.prog.info? n = some i) 64 87 tTypes68 := ⟨fun x h => (by cases h; exact info_of Tryz.type87), aT63, aT67⟩
theorem aZ68 : T.AllI (fun _ i => zeroB i = true) 64 87 tTypes68 := ⟨fun x h => (by cases h; exact (show zeroB Tryz.t87 = true by kernel_rfl)), aZ63, aZ67⟩
theorem aT69 : T.AllI (fun n i => Tryz.prog.info? n = some i) 512 567 tTypes69 := ⟨fun x h => (by cases h; exact info_of Tryz.type567), trivial, trivial⟩
theorem aZ69 : T.AllI (fun _ i => zeroB i = true) 512 567 tTypes69 := ⟨fun x h => (by cases h; exact (show zeroB Tryz.t567 = true by kernel_rfl)), trivial, trivial⟩
theorem aT70 : T.AllI (fun n i => Tryz.prog.info? n = some i) 256 311 tTypes70 := ⟨fun x h => (by cases h; exact info_of Tryz.type311), aT69, trivial⟩
theorem aZ70 : T.AllI (fun _ i => zeroB i = true) 256 311 tTypes70 := ⟨fun x h => (by cases h; exact (show zeroB Tryz.t311 = true by kernel_rfl)), aZ69, trivial⟩
theorem aT71 : T.AllI (fun n i => Tryz.prog.info? n = some i) 256 439 tTypes71 := ⟨fun x h => (by cases h; exact info_of Tryz.type439), trivial, trivial⟩
theorem aZ71 : T.AllI (fun _ i => zeroB i = true) 256 439 tTypes71 := ⟨fun x h => (by cases h; exact (show zeroB Tryz.t439 = true by kernel_rfl)), trivial, trivial⟩
theorem aT72 : T.AllI (fun n i => Tryz.prog.info? n = some i) 128 183 tTypes72 := ⟨fun x h => (by cases h; exact info_of Tryz.type183), aT70, aT71⟩
theorem aZ72 : T.AllI (fun _ i => zeroB i = true) 128 183 tTypes72 := ⟨fun x h => (by cases h; exact (show zeroB Tryz.t183 = true by kernel_rfl)), aZ70, aZ71⟩
theorem aT73 : T.AllI (fun n i => Tryz.prog.info? n = some i) 512 631 tTypes73 := ⟨fun x h => (by cases h; exact info_of Tryz.type631), trivial, trivial⟩
theorem aZ73 : T.AllI (fun _ i => zeroB i = true) 512 631 tTypes73 := ⟨fun x h => (by cases h; exact (show zeroB Tryz.t631 = true by kernel_rfl)), trivial, trivial⟩
theorem aT74 : T.AllI (fun n i => Tryz.prog.info? n = some i) 256 375 tTypes74 := ⟨fun x h => (by cases h; exact info_of Tryz.type375), aT73, trivial⟩
theorem aZ74 : T.AllI (fun _ i => zeroB i = true) 256 375 tTypes74 := ⟨fun x h => (by cases h; exact (show zeroB Tryz.t375 = true by kernel_rfl)), aZ73, trivial⟩
theorem aT75 : T.AllI (fun n i => Tryz.prog.info? n = some i) 256 503 tTypes75 := ⟨fun x h => (by cases h; exact info_of Tryz.type503), trivial, trivial⟩
theorem aZ75 : T.AllI (fun _ i => zeroB i = true) 256 503 tTypes75 := ⟨fun x h => (by cases h; exact (show zeroB Tryz.t503 = true by kernel_rfl)), trivial, trivial⟩
theorem aT76 : T.AllI (fun n i => Tryz.prog.info? n = some i) 128 247 tTypes76 := ⟨fun x h => (by cases h; exact info_of Tryz.type247), aT74, aT75⟩
theorem aZ76 : T.AllI (fun _ i => zeroB i = true) 128 247 tTypes76 := ⟨fun x h => (by cases h; exact (show zeroB Tryz.t247 = true by kernel_rfl)), aZ74, aZ75⟩
theorem aT77 : T.AllI (fun n i => Tryz.prog.info? n = some i) 64 119 tTypes77 := ⟨fun x h => (by cases h; exact info_of Tryz.type119), aT72, aT76⟩
theorem aZ77 : T.AllI (fun _ i => zeroB i = true) 64 119 tTypes77 := ⟨fun x h => (by cases h; exact (show zeroB Tryz.t119 = true by kernel_rfl)), aZ72, aZ76⟩
theorem aT78 : T.AllI (fun n i => Tryz.prog.info? n = some i) 32 55 tTypes78 := ⟨fun x h => (by cases h; exact info_of Tryz.type55), aT68, aT77⟩
theorem aZ78 : T.AllI (fun _ i => zeroB i = true) 32 55 tTypes78 := ⟨fun x h => (by cases h; exact (show zeroB Tryz.t55 = true by kernel_rfl)), aZ68, aZ77⟩
theorem aT79 : T.AllI (fun n i => Tryz.prog.info? n = some i) 16 23 tTypes79 := ⟨fun x h => (by cases h; exact info_of Tryz.type23), aT59, aT78⟩
theorem aZ79 : T.AllI (fun _ i => zeroB i = true) 16 23 tTypes79 := ⟨fun x h => (by cases h; exact (show zeroB Tryz.t23 = true by kernel_rfl)), aZ59, aZ78⟩
theorem aT80 : T.AllI (fun n i => Tryz.prog.info? n = some i) 8 7 tTypes80 := ⟨fun x h => (by cases h; exact info_of Tryz.type7), aT39, aT79⟩
theorem aZ80 : T.AllI (fun _ i => zeroB i = true) 8 7 tTypes80 := ⟨fun x h => (by cases h; exact (show zeroB Tryz.t7 = true by kernel_rfl)), aZ39, aZ79⟩
theorem aT81 : T.AllI (fun n i => Tryz.prog.info? n = some i) 512 515 tTypes81 := ⟨fun x h => (by cases h; exact info_of Tryz.type515), trivial, trivial⟩
theorem aZ81 : T.AllI (fun _ i => zeroB i = true) 512 515 tTypes81 := ⟨fun x h => (by cases h; exact (show zeroB Tryz.t515 = true by kernel_rfl)), trivial, trivial⟩
theorem aT82 : T.AllI (fun n i => Tryz.prog.info? n = some i) 256 259 tTypes82 := ⟨fun x h => (by cases h; exact info_of Tryz.type259), aT81, trivial⟩
theorem aZ82 : T.AllI (fun _ i => zeroB i = true) 256 259 tTypes82 := ⟨fun x h => (by cases h; exact (show zeroB Tryz.t259 = true by kernel_rfl)), aZ81, trivial⟩
theorem aT83 : T.AllI (fun n i => Tryz.prog.info? n = some i) 512 643 tTypes83 := ⟨fun x h => (by cases h; exact info_of Tryz.type643), trivial, trivial⟩
theorem aZ83 : T.AllI (fun _ i => zeroB i = true) 512 643 tTypes83 := ⟨fun x h => (by cases h; exact (show zeroB Tryz.t643 = true by kernel_rfl)), trivial, trivial⟩
theorem aT84 : T.AllI (fun n i => Tryz.prog.info? n = some i) 256 387 tTypes84 := ⟨fun x h => (by cases h; exact info_of Tryz.type387), aT83, trivial⟩
theorem aZ84 : T.AllI (fun _ i => zeroB i = true) 256 387 tTypes84 := ⟨fun x h => (by cases h; exact (show zeroB Tryz.t387 = true by kernel_rfl)), aZ83, trivial⟩
theorem aT85 : T.AllI (fun n i => Tryz.prog.info? n = some i) 128 131 tTypes85 := ⟨fun x h => (by cases h; exact info_of Tryz.type131), aT82, aT84⟩
theorem aZ85 : T.AllI (fun _ i => zeroB i = true) 128 131 tTypes85 := ⟨fun x h => (by cases h; exact (show zeroB Tryz.t131 = true by kernel_rfl)), aZ82, aZ84⟩
theorem aT86 : T.AllI (fun n i => Tryz.prog.info? n = some i) 512 579 tTypes86 := ⟨fun x h => (by cases h; exact info_of Tryz.type579), trivial, trivial⟩
theorem aZ86 : T.AllI (fun _ i => zeroB i = true) 512 579 tTypes86 := ⟨fun x h => (by cases h; exact (show zeroB Tryz.t579 = true by kernel_rfl)), trivial, trivial⟩
theorem aT87 : T.AllI (fun n i => Tryz.prog.info? n = some i) 256 323 tTypes87 := ⟨fun x h => (by cases h; exact info_of Tryz.type323), aT86, trivial⟩
theorem aZ87 : T.AllI (fun _ i => zeroB i = true) 256 323 tTypes87 := ⟨fun x h => (by cases h; exact (show zeroB Tryz.t323 = true by kernel_rfl)), aZ86, trivial⟩
theorem aT88 : T.AllI (fun n i => Tryz.prog.info? n = some i) 256 451 tTypes88 := ⟨fun x h => (by cases h; exact info_of Tryz.type451), trivial, trivial⟩
theorem aZ88 : T.AllI (fun _ i => zeroB i = true) 256 451 tTypes88 := ⟨fun x h => (by cases h; exact (show zeroB Tryz.t451 = true by kernel_rfl)), trivial, trivial⟩
theorem aT89 : T.AllI (fun n i => Tryz.prog.info? n = some i) 128 195 tTypes89 := ⟨fun x h => (by cases h; exact info_of Tryz.type195), aT87, aT88⟩
theorem aZ89 : T.AllI (fun _ i => zeroB i = true) 128 195 tTypes89 := ⟨fun x h => (by cases h; exact (show zeroB Tryz.t195 = true by kernel_rfl)), aZ87, aZ88⟩
theorem aT90 : T.AllI (fun n i => Tryz.prog.info? n = some i) 64 67 tTypes90 := ⟨fun x h => (by cases h; exact info_of Tryz.type67), aT85, aT89⟩
theorem aZ90 : T.AllI (fun _ i => zeroB i = true) 64 67 tTypes90 := ⟨fun x h => (by cases h; exact (show zeroB Tryz.t67 = true by kernel_rfl)), aZ85, aZ89⟩
theorem aT91 : T.AllI (fun n i => Tryz.prog.info? n = some i) 512 547 tTypes91 := ⟨fun x h => (by cases h; exact info_of Tryz.type547), trivial, trivial⟩
theorem aZ91 : T.AllI (fun _ i => zeroB i = true) 512 547 tTypes91 := ⟨fun x h => (by cases h; exact (show zeroB Tryz.t547 = true by kernel_rfl)), trivial, trivial⟩
theorem aT92 : T.AllI (fun n i => Tryz.prog.info? n = some i) 256 291 tTypes92 := ⟨fun x h => (by cases h; exact info_of Tryz.type291), aT91, trivial⟩
theorem aZ92 : T.AllI (fun _ i => zeroB i = true) 256 291 tTypes92 := ⟨fun x h => (by cases h; exact (show zeroB Tryz.t291 = true by kernel_rfl)), aZ91, trivial⟩
theorem aT93 : T.AllI (fun n i => Tryz.prog.info? n = some i) 256 419 tTypes93 := ⟨fun x h => (by cases h; exact info_of Tryz.type419), trivial, trivial⟩
theorem aZ93 : T.AllI (fun _ i => zeroB i = true) 256 419 tTypes93 := ⟨fun x h => (by cases h; exact (show zeroB Tryz.t419 = true by kernel_rfl)), trivial, trivial⟩
theorem aT94 : T.AllI (fun n i => Tryz.prog.info? n = some i) 128 163 tTypes94 := ⟨fun x h => (by cases h; exact info_of Tryz.type163), aT92, aT93⟩
theorem aZ94 : T.AllI (fun _ i => zeroB i = true) 128 163 tTypes94 := ⟨fun x h => (by cases h; exact (show zeroB Tryz.t163 = true by kernel_rfl)), aZ92, aZ93⟩
theorem aT95 : T.AllI (fun n i => Tryz.prog.info? n = some i) 512 611 tTypes95 := ⟨fun x h => (by cases h; exact info_of Tryz.type611), trivial, trivial⟩
theorem aZ95 : T.AllI (fun _ i => zeroB i = true) 512 611 tTypes95 := ⟨fun x h => (by cases h; exact (show zeroB Tryz.t611 = true by kernel_rfl)), trivial, trivial⟩
theorem aT96 : T.AllI (fun n i => Tryz.prog.info? n = some i) 256 355 tTypes96 := ⟨fun x h => (by cases h; exact info_of Tryz.type355), aT95, trivial⟩
theorem aZ96 : T.AllI (fun _ i => zeroB i = true) 256 355 tTypes96 := ⟨fun x h => (by cases h; exact (show zeroB Tryz.t355 = true by kernel_rfl)), aZ95, trivial⟩
theorem aT97 : T.AllI (fun n i => Tryz.prog.info? n = some i) 256 483 tTypes97 := ⟨fun x h => (by cases h; exact info_of Tryz.type483), trivial, trivial⟩
theorem aZ97 : T.AllI (fun _ i => zeroB i = true) 256 483 tTypes97 := ⟨fun x h => (by cases h; exact (show zeroB Tryz.t483 = true by kernel_rfl)), trivial, trivial⟩
theorem aT98 : T.AllI (fun n i => Tryz.prog.info? n = some i) 128 227 tTypes98 := ⟨fun x h => (by cases h; exact info_of Tryz.type227), aT96, aT97⟩
theorem aZ98 : T.AllI (fun _ i => zeroB i = true) 128 227 tTypes98 := ⟨fun x h => (by cases h; exact (show zeroB Tryz.t227 = true by kernel_rfl)), aZ96, aZ97⟩
theorem aT99 : T.AllI (fun n i => Tryz.prog.info? n = some i) 64 99 tTypes99 := ⟨fun x h => (by cases h; exact info_of Tryz.type99), aT94, aT98⟩
theorem aZ99 : T.AllI (fun _ i => zeroB i = true) 64 99 tTypes99 := ⟨fun x h => (by cases h; exact (show zeroB Tryz.t99 = true by kernel_rfl)), aZ94, aZ98⟩
theorem aT100 : T.AllI (fun n i => Tryz.prog.info? n = some i) 32 35 tTypes100 := ⟨fun x h => (by cases h; exact info_of Tryz.type35), aT90, aT99⟩
theorem aZ100 : T.AllI (fun _ i => zeroB i = true) 32 35 tTypes100 := ⟨fun x h => (by cases h; exact (show zeroB Tryz.t35 = true by kernel_rfl)), aZ90, aZ99⟩
theorem aT101 : T.AllI (fun n i => Tryz.prog.info? n = some i) 512 531 tTypes101 := ⟨fun x h => (by cases h; exact info_of Tryz.type531), trivial, trivial⟩
theorem aZ101 : T.AllI (fun _ i => zeroB i = true) 512 531 tTypes101 := ⟨fun x h => (by cases h; exact (show zeroB Tryz.t531 = true by kernel_rfl)), trivial, trivial⟩
theorem aT102 : T.AllI (fun n i => Tryz.prog.info? n = some i) 256 275 tTypes102 := ⟨fun x h => (by cases h; exact info_of Tryz.type275), aT101, trivial⟩
theorem aZ102 : T.AllI (fun _ i => zeroB i = true) 256 275 tTypes102 := ⟨fun x h => (by cases h; exact (show zeroB Tryz.t275 = true by kernel_rfl)), aZ101, trivial⟩
theorem aT103 : T.AllI (fun n i => Tryz.prog.info? n = some i) 256 403 tTypes103 := ⟨fun x h => (by cases h; exact info_of Tryz.type403), trivial, trivial⟩
theorem aZ103 : T.AllI (fun _ i => zeroB i = true) 256 403 tTypes103 := ⟨fun x h => (by cases h; exact (show zeroB Tryz.t403 = true by kernel_rfl)), trivial, trivial⟩
theorem aT104 : T.AllI (fun n i => Tryz.prog.info? n = some i) 128 147 tTypes104 := ⟨fun x h => (by cases h; exact info_of Tryz.type147), aT102, aT103⟩
theorem aZ104 : T.AllI (fun _ i => zeroB i = true) 128 147 tTypes104 := ⟨fun x h => (by cases h; exact (show zeroB Tryz.t147 = true by kernel_rfl)), aZ102, aZ103⟩
theorem aT105 : T.AllI (fun n i => Tryz.prog.info? n = some i) 512 595 tTypes105 := ⟨fun x h => (by cases h; exact info_of Tryz.type595), trivial, trivial⟩
theorem aZ105 : T.AllI (fun _ i => zeroB i = true) 512 595 tTypes105 := ⟨fun x h => (by cases h; exact (show zeroB Tryz.t595 = true by kernel_rfl)), trivial, trivial⟩
theorem aT106 : T.AllI (fun n i => Tryz.prog.info? n = some i) 256 339 tTypes106 := ⟨fun x h => (by cases h; exact info_of Tryz.type339), aT105, trivial⟩
theorem aZ106 : T.AllI (fun _ i => zeroB i = true) 256 339 tTypes106 := ⟨fun x h => (by cases h; exact (show zeroB Tryz.t339 = true by kernel_rfl)), aZ105, trivial⟩
theorem aT107 : T.AllI (fun n i => Tryz.prog.info? n = some i) 256 467 tTypes107 := ⟨fun x h => (by cases h; exact info_of Tryz.type467), trivial, trivial⟩
theorem aZ107 : T.AllI (fun _ i => zeroB i = true) 256 467 tTypes107 := ⟨fun x h => (by cases h; exact (show zeroB Tryz.t467 = true by kernel_rfl)), trivial, trivial⟩
theorem aT108 : T.AllI (fun n i => Tryz.prog.info? n = some i) 128 211 tTypes108 := ⟨fun x h => (by cases h; exact info_of Tryz.type211), aT106, aT107⟩
theorem aZ108 : T.AllI (fun _ i => zeroB i = true) 128 211 tTypes108 := ⟨fun x h => (by cases h; exact (show zeroB Tryz.t211 = true by kernel_rfl)), aZ106, aZ107⟩
theorem aT109 : T.AllI (fun n i => Tryz.prog.info? n = some i) 64 83 tTypes109 := ⟨fun x h => (by cases h; exact info_of Tryz.type83), aT104, aT108⟩
theorem aZ109 : T.AllI (fun _ i => zeroB i = true) 64 83 tTypes109 := ⟨fun x h => (by cases h; exact (show zeroB Tryz.t83 = true by kernel_rfl)), aZ104, aZ108⟩
theorem aT110 : T.AllI (fun n i => Tryz.prog.info? n = some i) 512 563 tTypes110 := ⟨fun x h => (by cases h; exact info_of Tryz.type563), trivial, trivial⟩
theorem aZ110 : T.AllI (fun _ i => zeroB i = true) 512 563 tTypes110 := ⟨fun x h => (by cases h; exact (show zeroB Tryz.t563 = true by kernel_rfl)), trivial, trivial⟩
theorem aT111 : T.AllI (fun n i => Tryz.prog.info? n = some i) 256 307 tTypes111 := ⟨fun x h => (by cases h; exact info_of Tryz.type307), aT110, trivial⟩
theorem aZ111 : T.AllI (fun _ i => zeroB i = true) 256 307 tTypes111 := ⟨fun x h => (by cases h; exact (show zeroB Tryz.t307 = true by kernel_rfl)), aZ110, trivial⟩
theorem aT112 : T.AllI (fun n i => Tryz.prog.info? n = some i) 256 435 tTypes112 := ⟨fun x h => (by cases h; exact info_of Tryz.type435), trivial, trivial⟩
theorem aZ112 : T.AllI (fun _ i => zeroB i = true) 256 435 tTypes112 := ⟨fun x h => (by cases h; exact (show zeroB Tryz.t435 = true by kernel_rfl)), trivial, trivial⟩
theorem aT113 : T.AllI (fun n i => Tryz.prog.info? n = some i) 128 179 tTypes113 := ⟨fun x h => (by cases h; exact info_of Tryz.type179), aT111, aT112⟩
theorem aZ113 : T.AllI (fun _ i => zeroB i = true) 128 179 tTypes113 := ⟨fun x h => (by cases h; exact (show zeroB Tryz.t179 = true by kernel_rfl)), aZ111, aZ112⟩
theorem aT114 : T.AllI (fun n i => Tryz.prog.info? n = some i) 512 627 tTypes114 := ⟨fun x h => (by cases h; exact info_of Tryz.type627), trivial, trivial⟩
theorem aZ114 : T.AllI (fun _ i => zeroB i = true) 512 627 tTypes114 := ⟨fun x h => (by cases h; exact (show zeroB Tryz.t627 = true by kernel_rfl)), trivial, trivial⟩
theorem aT115 : T.AllI (fun n i => Tryz.prog.info? n = some i) 256 371 tTypes115 := ⟨fun x h => (by cases h; exact info_of Tryz.type371), aT114, trivial⟩
theorem aZ115 : T.AllI (fun _ i => zeroB i = true) 256 371 tTypes115 := ⟨fun x h => (by cases h; exact (show zeroB Tryz.t371 = true by kernel_rfl)), aZ114, trivial⟩
theorem aT116 : T.AllI (fun n i => Tryz.prog.info? n = some i) 256 499 tTypes116 := ⟨fun x h => (by cases h; exact info_of Tryz.type499), trivial, trivial⟩
theorem aZ116 : T.AllI (fun _ i => zeroB i = true) 256 499 tTypes116 := ⟨fun x h => (by cases h; exact (show zeroB Tryz.t499 = true by kernel_rfl)), trivial, trivial⟩
theorem aT117 : T.AllI (fun n i => Tryz.prog.info? n = some i) 128 243 tTypes117 := ⟨fun x h => (by cases h; exact info_of Tryz.type243), aT115, aT116⟩
theorem aZ117 : T.AllI (fun _ i => zeroB i = true) 128 243 tTypes117 := ⟨fun x h => (by cases h; exact (show zeroB Tryz.t243 = true by kernel_rfl)), aZ115, aZ116⟩
theorem aT118 : T.AllI (fun n i => Tryz.prog.info? n = some i) 64 115 tTypes118 := ⟨fun x h => (by cases h; exact info_of Tryz.type115), aT113, aT117⟩
theorem aZ118 : T.AllI (fun _ i => zeroB i = true) 64 115 tTypes118 := ⟨fun x h => (by cases h; exact (show zeroB Tryz.t115 = true by kernel_rfl)), aZ113, aZ117⟩
theorem aT119 : T.AllI (fun n i => Tryz.prog.info? n = some i) 32 51 tTypes119 := ⟨fun x h => (by cases h; exact info_of Tryz.type51), aT109, aT118⟩
theorem aZ119 : T.AllI (fun _ i => zeroB i = true) 32 51 tTypes119 := ⟨fun x h => (by cases h; exact (show zeroB Tryz.t51 = true by kernel_rfl)), aZ109, aZ118⟩
theorem aT120 : T.AllI (fun n i => Tryz.prog.info? n = some i) 16 19 tTypes120 := ⟨fun x h => (by cases h; exact info_of Tryz.type19), aT100, aT119⟩
theorem aZ120 : T.AllI (fun _ i => zeroB i = true) 16 19 tTypes120 := ⟨fun x h => (by cases h; exact (show zeroB Tryz.t19 = true by kernel_rfl)), aZ100, aZ119⟩
theorem aT121 : T.AllI (fun n i => Tryz.prog.info? n = some i) 512 523 tTypes121 := ⟨fun x h => (by cases h; exact info_of Tryz.type523), trivial, trivial⟩
theorem aZ121 : T.AllI (fun _ i => zeroB i = true) 512 523 tTypes121 := ⟨fun x h => (by cases h; exact (show zeroB Tryz.t523 = true by kernel_rfl)), trivial, trivial⟩
theorem aT122 : T.AllI (fun n i => Tryz.prog.info? n = some i) 256 267 tTypes122 := ⟨fun x h => (by cases h; exact info_of Tryz.type267), aT121, trivial⟩
theorem aZ122 : T.AllI (fun _ i => zeroB i = true) 256 267 tTypes122 := ⟨fun x h => (by cases h; exact (show zeroB Tryz.t267 = true by kernel_rfl)), aZ121, trivial⟩
theorem aT123 : T.AllI (fun n i => Tryz.prog.info? n = some i) 256 395 tTypes123 := ⟨fun x h => (by cases h; exact info_of Tryz.type395), trivial, trivial⟩
theorem aZ123 : T.AllI (fun _ i => zeroB i = true) 256 395 tTypes123 := ⟨fun x h => (by cases h; exact (show zeroB Tryz.t395 = true by kernel_rfl)), trivial, trivial⟩
theorem aT124 : T.AllI (fun n i => Tryz.prog.info? n = some i) 128 139 tTypes124 := ⟨fun x h => (by cases h; exact info_of Tryz.type139), aT122, aT123⟩
theorem aZ124 : T.AllI (fun _ i => zeroB i = true) 128 139 tTypes124 := ⟨fun x h => (by cases h; exact (show zeroB Tryz.t139 = true by kernel_rfl)), aZ122, aZ123⟩
theorem aT125 : T.AllI (fun n i => Tryz.prog.info? n = some i) 512 587 tTypes125 := ⟨fun x h => (by cases h; exact info_of Tryz.type587), trivial, trivial⟩
theorem aZ125 : T.AllI (fun _ i => zeroB i = true) 512 587 tTypes125 := ⟨fun x h => (by cases h; exact (show zeroB Tryz.t587 = true by kernel_rfl)), trivial, trivial⟩
theorem aT126 : T.AllI (fun n i => Tryz.prog.info? n = some i) 256 331 tTypes126 := ⟨fun x h => (by cases h; exact info_of Tryz.type331), aT125, trivial⟩
theorem aZ126 : T.AllI (fun _ i => zeroB i = true) 256 331 tTypes126 := ⟨fun x h => (by cases h; exact (show zeroB Tryz.t331 = true by kernel_rfl)), aZ125, trivial⟩
theorem aT127 : T.AllI (fun n i => Tryz.prog.info? n = some i) 256 459 tTypes127 := ⟨fun x h => (by cases h; exact info_of Tryz.type459), trivial, trivial⟩
theorem aZ127 : T.AllI (fun _ i => zeroB i = true) 256 459 tTypes127 := ⟨fun x h => (by cases h; exact (show zeroB Tryz.t459 = true by kernel_rfl)), trivial, trivial⟩
theorem aT128 : T.AllI (fun n i => Tryz.prog.info? n = some i) 128 203 tTypes128 := ⟨fun x h => (by cases h; exact info_of Tryz.type203), aT126, aT127⟩
theorem aZ128 : T.AllI (fun _ i => zeroB i = true) 128 203 tTypes128 := ⟨fun x h => (by cases h; exact (show zeroB Tryz.t203 = true by kernel_rfl)), aZ126, aZ127⟩
theorem aT129 : T.AllI (fun n i => Tryz.prog.info? n = some i) 64 75 tTypes129 := ⟨fun x h => (by cases h; exact info_of Tryz.type75), aT124, aT128⟩
theorem aZ129 : T.AllI (fun _ i => zeroB i = true) 64 75 tTypes129 := ⟨fun x h => (by cases h; exact (show zeroB Tryz.t75 = true by kernel_rfl)), aZ124, aZ128⟩
theorem aT130 : T.AllI (fun n i => Tryz.prog.info? n = some i) 512 555 tTypes130 := ⟨fun x h => (by cases h; exact info_of Tryz.type555), trivial, trivial⟩
theorem aZ130 : T.AllI (fun _ i => zeroB i = true) 512 555 tTypes130 := ⟨fun x h => (by cases h; exact (show zeroB Tryz.t555 = true by kernel_rfl)), trivial, trivial⟩
theorem aT131 : T.AllI (fun n i => Tryz.prog.info? n = some i) 256 299 tTypes131 := ⟨fun x h => (by cases h; exact info_of Tryz.type299), aT130, trivial⟩
theorem aZ131 : T.AllI (fun _ i => zeroB i = true) 256 299 tTypes131 := ⟨fun x h => (by cases h; exact (show zeroB Tryz.t299 = true by kernel_rfl)), aZ130, trivial⟩
theorem aT132 : T.AllI (fun n i => Tryz.prog.info? n = some i) 256 427 tTypes132 := ⟨fun x h => (by cases h; exact info_of Tryz.type427), trivial, trivial⟩
theorem aZ132 : T.AllI (fun _ i => zeroB i = true) 256 427 tTypes132 := ⟨fun x h => (by cases h; exact (show zeroB Tryz.t427 = true by kernel_rfl)), trivial, trivial⟩
theorem aT133 : T.AllI (fun n i => Tryz.prog.info? n = some i) 128 171 tTypes133 := ⟨fun x h => (by cases h; exact info_of Tryz.type171), aT131, aT132⟩
theorem aZ133 : T.AllI (fun _ i => zeroB i = true) 128 171 tTypes133 := ⟨fun x h => (by cases h; exact (show zeroB Tryz.t171 = true by kernel_rfl)), aZ131, aZ132⟩
theorem aT134 : T.AllI (fun n i => Tryz.prog.info? n = some i) 512 619 tTypes134 := ⟨fun x h => (by cases h; exact info_of Tryz.type619), trivial, trivial⟩
theorem aZ134 : T.AllI (fun _ i => zeroB i = true) 512 619 tTypes134 := ⟨fun x h => (by cases h; exact (show zeroB Tryz.t619 = true by kernel_rfl)), trivial, trivial⟩
theorem aT135 : T.AllI (fun n i => Tryz.prog.info? n = some i) 256 363 tTypes135 := ⟨fun x h => (by cases h; exact info_of Tryz.type363), aT134, trivial⟩
theorem aZ135 : T.AllI (fun _ i => zeroB i = true) 256 363 tTypes135 := ⟨fun x h => (by cases h; exact (show zeroB Tryz.t363 = true by kernel_rfl)), aZ134, trivial⟩
theorem aT136 : T.AllI (fun n i => Tryz.prog.info? n = some i) 256 491 tTypes136 := ⟨fun x h => (by cases h; exact info_of Tryz.type491), trivial, trivial⟩
theorem aZ136 : T.AllI (fun _ i => zeroB i = true) 256 491 tTypes136 := ⟨fun x h => (by cases h; exact (show zeroB Tryz.t491 = true by kernel_rfl)), trivial, trivial⟩
theorem aT137 : T.AllI (fun n i => Tryz.prog.info? n = some i) 128 235 tTypes137 := ⟨fun x h => (by cases h; exact info_of Tryz.type235), aT135, aT136⟩
theorem aZ137 : T.AllI (fun _ i => zeroB i = true) 128 235 tTypes137 := ⟨fun x h => (by cases h; exact (show zeroB Tryz.t235 = true by kernel_rfl)), aZ135, aZ136⟩
theorem aT138 : T.AllI (fun n i => Tryz.prog.info? n = some i) 64 107 tTypes138 := ⟨fun x h => (by cases h; exact info_of Tryz.type107), aT133, aT137⟩
theorem aZ138 : T.AllI (fun _ i => zeroB i = true) 64 107 tTypes138 := ⟨fun x h => (by cases h; exact (show zeroB Tryz.t107 = true by kernel_rfl)), aZ133, aZ137⟩
theorem aT139 : T.AllI (fun n i => Tryz.prog.info? n = some i) 32 43 tTypes139 := ⟨fun x h => (by cases h; exact info_of Tryz.type43), aT129, aT138⟩
theorem aZ139 : T.AllI (fun _ i => zeroB i = true) 32 43 tTypes139 := ⟨fun x h => (by cases h; exact (show zeroB Tryz.t43 = true by kernel_rfl)), aZ129, aZ138⟩
theorem aT140 : T.AllI (fun n i => Tryz.prog.info? n = some i) 512 539 tTypes140 := ⟨fun x h => (by cases h; exact info_of Tryz.type539), trivial, trivial⟩
theorem aZ140 : T.AllI (fun _ i => zeroB i = true) 512 539 tTypes140 := ⟨fun x h => (by cases h; exact (show zeroB Tryz.t539 = true by kernel_rfl)), trivial, trivial⟩
theorem aT141 : T.AllI (fun n i => Tryz.prog.info? n = some i) 256 283 tTypes141 := ⟨fun x h => (by cases h; exact info_of Tryz.type283), aT140, trivial⟩
theorem aZ141 : T.AllI (fun _ i => zeroB i = true) 256 283 tTypes141 := ⟨fun x h => (by cases h; exact (show zeroB Tryz.t283 = true by kernel_rfl)), aZ140, trivial⟩
theorem aT142 : T.AllI (fun n i => Tryz.prog.info? n = some i) 256 411 tTypes142 := ⟨fun x h => (by cases h; exact info_of Tryz.type411), trivial, trivial⟩
theorem aZ142 : T.AllI (fun _ i => zeroB i = true) 256 411 tTypes142 := ⟨fun x h => (by cases h; exact (show zeroB Tryz.t411 = true by kernel_rfl)), trivial, trivial⟩
theorem aT143 : T.AllI (fun n i => Tryz.prog.info? n = some i) 128 155 tTypes143 := ⟨fun x h => (by cases h; exact info_of Tryz.type155), aT141, aT142⟩
theorem aZ143 : T.AllI (fun _ i => zeroB i = true) 128 155 tTypes143 := ⟨fun x h => (by cases h; exact (show zeroB Tryz.t155 = true by kernel_rfl)), aZ141, aZ142⟩
theorem aT144 : T.AllI (fun n i => Tryz.prog.info? n = some i) 512 603 tTypes144 := ⟨fun x h => (by cases h; exact info_of Tryz.type603), trivial, trivial⟩
theorem aZ144 : T.AllI (fun _ i => zeroB i = true) 512 603 tTypes144 := ⟨fun x h => (by cases h; exact (show zeroB Tryz.t603 = true by kernel_rfl)), trivial, trivial⟩
theorem aT145 : T.AllI (fun n i => Tryz.prog.info? n = some i) 256 347 tTypes145 := ⟨fun x h => (by cases h; exact info_of Tryz.type347), aT144, trivial⟩
theorem aZ145 : T.AllI (fun _ i => zeroB i = true) 256 347 tTypes145 := ⟨fun x h => (by cases h; exact (show zeroB Tryz.t347 = true by kernel_rfl)), aZ144, trivial⟩
theorem aT146 : T.AllI (fun n i => Tryz.prog.info? n = some i) 256 475 tTypes146 := ⟨fun x h => (by cases h; exact info_of Tryz.type475), trivial, trivial⟩
theorem aZ146 : T.AllI (fun _ i => zeroB i = true) 256 475 tTypes146 := ⟨fun x h => (by cases h; exact (show zeroB Tryz.t475 = true by kernel_rfl)), trivial, trivial⟩
theorem aT147 : T.AllI (fun n i => Tryz.prog.info? n = some i) 128 219 tTypes147 := ⟨fun x h => (by cases h; exact info_of Tryz.type219), aT145, aT146⟩
theorem aZ147 : T.AllI (fun _ i => zeroB i = true) 128 219 tTypes147 := ⟨fun x h => (by cases h; exact (show zeroB Tryz.t219 = true by kernel_rfl)), aZ145, aZ146⟩
theorem aT148 : T.AllI (fun n i => Tryz.prog.info? n = some i) 64 91 tTypes148 := ⟨fun x h => (by cases h; exact info_of Tryz.type91), aT143, aT147⟩
theorem aZ148 : T.AllI (fun _ i => zeroB i = true) 64 91 tTypes148 := ⟨fun x h => (by cases h; exact (show zeroB Tryz.t91 = true by kernel_rfl)), aZ143, aZ147⟩
theorem aT149 : T.AllI (fun n i => Tryz.prog.info? n = some i) 512 571 tTypes149 := ⟨fun x h => (by cases h; exact info_of Tryz.type571), trivial, trivial⟩
theorem aZ149 : T.AllI (fun _ i => zeroB i = true) 512 571 tTypes149 := ⟨fun x h => (by cases h; exact (show zeroB Tryz.t571 = true by kernel_rfl)), trivial, trivial⟩
theorem aT150 : T.AllI (fun n i => Tryz.prog.info? n = some i) 256 315 tTypes150 := ⟨fun x h => (by cases h; exact info_of Tryz.type315), aT149, trivial⟩
theorem aZ150 : T.AllI (fun _ i => zeroB i = true) 256 315 tTypes150 := ⟨fun x h => (by cases h; exact (show zeroB Tryz.t315 = true by kernel_rfl)), aZ149, trivial⟩
theorem aT151 : T.AllI (fun n i => Tryz.prog.info? n = some i) 256 443 tTypes151 := ⟨fun x h => (by cases h; exact info_of Tryz.type443), trivial, trivial⟩
theorem aZ151 : T.AllI (fun _ i => zeroB i = true) 256 443 tTypes151 := ⟨fun x h => (by cases h; exact (show zeroB Tryz.t443 = true by kernel_rfl)), trivial, trivial⟩
theorem aT152 : T.AllI (fun n i => Tryz.prog.info? n = some i) 128 187 tTypes152 := ⟨fun x h => (by cases h; exact info_of Tryz.type187), aT150, aT151⟩
theorem aZ152 : T.AllI (fun _ i => zeroB i = true) 128 187 tTypes152 := ⟨fun x h => (by cases h; exact (show zeroB Tryz.t187 = true by kernel_rfl)), aZ150, aZ151⟩
theorem aT153 : T.AllI (fun n i => Tryz.prog.info? n = some i) 512 635 tTypes153 := ⟨fun x h => (by cases h; exact info_of Tryz.type635), trivial, trivial⟩
theorem aZ153 : T.AllI (fun _ i => zeroB i = true) 512 635 tTypes153 := ⟨fun x h => (by cases h; exact (show zeroB Tryz.t635 = true by kernel_rfl)), trivial, trivial⟩
theorem aT154 : T.AllI (fun n i => Tryz.prog.info? n = some i) 256 379 tTypes154 := ⟨fun x h => (by cases h; exact info_of Tryz.type379), aT153, trivial⟩
theorem aZ154 : T.AllI (fun _ i => zeroB i = true) 256 379 tTypes154 := ⟨fun x h => (by cases h; exact (show zeroB Tryz.t379 = true by kernel_rfl)), aZ153, trivial⟩
theorem aT155 : T.AllI (fun n i => Tryz.prog.info? n = some i) 256 507 tTypes155 := ⟨fun x h => (by cases h; exact info_of Tryz.type507), trivial, trivial⟩
theorem aZ155 : T.AllI (fun _ i => zeroB i = true) 256 507 tTypes155 := ⟨fun x h => (by cases h; exact (show zeroB Tryz.t507 = true by kernel_rfl)), trivial, trivial⟩
theorem aT156 : T.AllI (fun n i => Tryz.prog.info? n = some i) 128 251 tTypes156 := ⟨fun x h => (by cases h; exact info_of Tryz.type251), aT154, aT155⟩
theorem aZ156 : T.AllI (fun _ i => zeroB i = true) 128 251 tTypes156 := ⟨fun x h => (by cases h; exact (show zeroB Tryz.t251 = true by kernel_rfl)), aZ154, aZ155⟩
theorem aT157 : T.AllI (fun n i => Tryz.prog.info? n = some i) 64 123 tTypes157 := ⟨fun x h => (by cases h; exact info_of Tryz.type123), aT152, aT156⟩
theorem aZ157 : T.AllI (fun _ i => zeroB i = true) 64 123 tTypes157 := ⟨fun x h => (by cases h; exact (show zeroB Tryz.t123 = true by kernel_rfl)), aZ152, aZ156⟩
theorem aT158 : T.AllI (fun n i => Tryz.prog.info? n = some i) 32 59 tTypes158 := ⟨fun x h => (by cases h; exact info_of Tryz.type59), aT148, aT157⟩
theorem aZ158 : T.AllI (fun _ i => zeroB i = true) 32 59 tTypes158 := ⟨fun x h => (by cases h; exact (show zeroB Tryz.t59 = true by kernel_rfl)), aZ148, aZ157⟩
theorem aT159 : T.AllI (fun n i => Tryz.prog.info? n = some i) 16 27 tTypes159 := ⟨fun x h => (by cases h; exact info_of Tryz.type27), aT139, aT158⟩
theorem aZ159 : T.AllI (fun _ i => zeroB i = true) 16 27 tTypes159 := ⟨fun x h => (by cases h; exact (show zeroB Tryz.t27 = true by kernel_rfl)), aZ139, aZ158⟩
theorem aT160 : T.AllI (fun n i => Tryz.prog.info? n = some i) 8 11 tTypes160 := ⟨fun x h => (by cases h; exact info_of Tryz.type11), aT120, aT159⟩
theorem aZ160 : T.AllI (fun _ i => zeroB i = true) 8 11 tTypes160 := ⟨fun x h => (by cases h; exact (show zeroB Tryz.t11 = true by kernel_rfl)), aZ120, aZ159⟩
theorem aT161 : T.AllI (fun n i => Tryz.prog.info? n = some i) 4 3 tTypes161 := ⟨fun x h => (by cases h; exact info_of Tryz.type3), aT80, aT160⟩
theorem aZ161 : T.AllI (fun _ i => zeroB i = true) 4 3 tTypes161 := ⟨fun x h => (by cases h; exact (show zeroB Tryz.t3 = true by kernel_rfl)), aZ80, aZ160⟩
theorem aT162 : T.AllI (fun n i => Tryz.prog.info? n = some i) 512 513 tTypes162 := ⟨fun x h => (by cases h; exact info_of Tryz.type513), trivial, trivial⟩
theorem aZ162 : T.AllI (fun _ i => zeroB i = true) 512 513 tTypes162 := ⟨fun x h => (by cases h; exact (show zeroB Tryz.t513 = true by kernel_rfl)), trivial, trivial⟩
theorem aT163 : T.AllI (fun n i => Tryz.prog.info? n = some i) 256 257 tTypes163 := ⟨fun x h => (by cases h; exact info_of Tryz.type257), aT162, trivial⟩
theorem aZ163 : T.AllI (fun _ i => zeroB i = true) 256 257 tTypes163 := ⟨fun x h => (by cases h; exact (show zeroB Tryz.t257 = true by kernel_rfl)), aZ162, trivial⟩
theorem aT164 : T.AllI (fun n i => Tryz.prog.info? n = some i) 512 641 tTypes164 := ⟨fun x h => (by cases h; exact info_of Tryz.type641), trivial, trivial⟩
theorem aZ164 : T.AllI (fun _ i => zeroB i = true) 512 641 tTypes164 := ⟨fun x h => (by cases h; exact (show zeroB Tryz.t641 = true by kernel_rfl)), trivial, trivial⟩
theorem aT165 : T.AllI (fun n i => Tryz.prog.info? n = some i) 256 385 tTypes165 := ⟨fun x h => (by cases h; exact info_of Tryz.type385), aT164, trivial⟩
theorem aZ165 : T.AllI (fun _ i => zeroB i = true) 256 385 tTypes165 := ⟨fun x h => (by cases h; exact (show zeroB Tryz.t385 = true by kernel_rfl)), aZ164, trivial⟩
theorem aT166 : T.AllI (fun n i => Tryz.prog.info? n = some i) 128 129 tTypes166 := ⟨fun x h => (by cases h; exact info_of Tryz.type129), aT163, aT165⟩
theorem aZ166 : T.AllI (fun _ i => zeroB i = true) 128 129 tTypes166 := ⟨fun x h => (by cases h; exact (show zeroB Tryz.t129 = true by kernel_rfl)), aZ163, aZ165⟩
theorem aT167 : T.AllI (fun n i => Tryz.prog.info? n = some i) 512 577 tTypes167 := ⟨fun x h => (by cases h; exact info_of Tryz.type577), trivial, trivial⟩
theorem aZ167 : T.AllI (fun _ i => zeroB i = true) 512 577 tTypes167 := ⟨fun x h => (by cases h; exact (show zeroB Tryz.t577 = true by kernel_rfl)), trivial, trivial⟩
theorem aT168 : T.AllI (fun n i => Tryz.prog.info? n = some i) 256 321 tTypes168 := ⟨fun x h => (by cases h; exact info_of Tryz.type321), aT167, trivial⟩
theorem aZ168 : T.AllI (fun _ i => zeroB i = true) 256 321 tTypes168 := ⟨fun x h => (by cases h; exact (show zeroB Tryz.t321 = true by kernel_rfl)), aZ167, trivial⟩
theorem aT169 : T.AllI (fun n i => Tryz.prog.info? n = some i) 256 449 tTypes169 := ⟨fun x h => (by cases h; exact info_of Tryz.type449), trivial, trivial⟩
theorem aZ169 : T.AllI (fun _ i => zeroB i = true) 256 449 tTypes169 := ⟨fun x h => (by cases h; exact (show zeroB Tryz.t449 = true by kernel_rfl)), trivial, trivial⟩
theorem aT170 : T.AllI (fun n i => Tryz.prog.info? n = some i) 128 193 tTypes170 := ⟨fun x h => (by cases h; exact info_of Tryz.type193), aT168, aT169⟩
theorem aZ170 : T.AllI (fun _ i => zeroB i = true) 128 193 tTypes170 := ⟨fun x h => (by cases h; exact (show zeroB Tryz.t193 = true by kernel_rfl)), aZ168, aZ169⟩
theorem aT171 : T.AllI (fun n i => Tryz.prog.info? n = some i) 64 65 tTypes171 := ⟨fun x h => (by cases h; exact info_of Tryz.type65), aT166, aT170⟩
theorem aZ171 : T.AllI (fun _ i => zeroB i = true) 64 65 tTypes171 := ⟨fun x h => (by cases h; exact (show zeroB Tryz.t65 = true by kernel_rfl)), aZ166, aZ170⟩
theorem aT172 : T.AllI (fun n i => Tryz.prog.info? n = some i) 512 545 tTypes172 := ⟨fun x h => (by cases h; exact info_of Tryz.type545), trivial, trivial⟩
theorem aZ172 : T.AllI (fun _ i => zeroB i = true) 512 545 tTypes172 := ⟨fun x h => (by cases h; exact (show zeroB Tryz.t545 = true by kernel_rfl)), trivial, trivial⟩
theorem aT173 : T.AllI (fun n i => Tryz.prog.info? n = some i) 256 289 tTypes173 := ⟨fun x h => (by cases h; exact info_of Tryz.type289), aT172, trivial⟩
theorem aZ173 : T.AllI (fun _ i => zeroB i = true) 256 289 tTypes173 := ⟨fun x h => (by cases h; exact (show zeroB Tryz.t289 = true by kernel_rfl)), aZ172, trivial⟩
theorem aT174 : T.AllI (fun n i => Tryz.prog.info? n = some i) 256 417 tTypes174 := ⟨fun x h => (by cases h; exact info_of Tryz.type417), trivial, trivial⟩
theorem aZ174 : T.AllI (fun _ i => zeroB i = true) 256 417 tTypes174 := ⟨fun x h => (by cases h; exact (show zeroB Tryz.t417 = true by kernel_rfl)), trivial, trivial⟩
theorem aT175 : T.AllI (fun n i => Tryz.prog.info? n = some i) 128 161 tTypes175 := ⟨fun x h => (by cases h; exact info_of Tryz.type161), aT173, aT174⟩
theorem aZ175 : T.AllI (fun _ i => zeroB i = true) 128 161 tTypes175 := ⟨fun x h => (by cases h; exact (show zeroB Tryz.t161 = true by kernel_rfl)), aZ173, aZ174⟩
theorem aT176 : T.AllI (fun n i => Tryz.prog.info? n = some i) 512 609 tTypes176 := ⟨fun x h => (by cases h; exact info_of Tryz.type609), trivial, trivial⟩
theorem aZ176 : T.AllI (fun _ i => zeroB i = true) 512 609 tTypes176 := ⟨fun x h => (by cases h; exact (show zeroB Tryz.t609 = true by kernel_rfl)), trivial, trivial⟩
theorem aT177 : T.AllI (fun n i => Tryz.prog.info? n = some i) 256 353 tTypes177 := ⟨fun x h => (by cases h; exact info_of Tryz.type353), aT176, trivial⟩
theorem aZ177 : T.AllI (fun _ i => zeroB i = true) 256 353 tTypes177 := ⟨fun x h => (by cases h; exact (show zeroB Tryz.t353 = true by kernel_rfl)), aZ176, trivial⟩
theorem aT178 : T.AllI (fun n i => Tryz.prog.info? n = some i) 256 481 tTypes178 := ⟨fun x h => (by cases h; exact info_of Tryz.type481), trivial, trivial⟩
theorem aZ178 : T.AllI (fun _ i => zeroB i = true) 256 481 tTypes178 := ⟨fun x h => (by cases h; exact (show zeroB Tryz.t481 = true by kernel_rfl)), trivial, trivial⟩
theorem aT179 : T.AllI (fun n i => Tryz.prog.info? n = some i) 128 225 tTypes179 := ⟨fun x h => (by cases h; exact info_of Tryz.type225), aT177, aT178⟩
theorem aZ179 : T.AllI (fun _ i => zeroB i = true) 128 225 tTypes179 := ⟨fun x h => (by cases h; exact (show zeroB Tryz.t225 = true by kernel_rfl)), aZ177, aZ178⟩
theorem aT180 : T.AllI (fun n i => Tryz.prog.info? n = some i) 64 97 tTypes180 := ⟨fun x h => (by cases h; exact info_of Tryz.type97), aT175, aT179⟩
theorem aZ180 : T.AllI (fun _ i => zeroB i = true) 64 97 tTypes180 := ⟨fun x h => (by cases h; exact (show zeroB Tryz.t97 = true by kernel_rfl)), aZ175, aZ179⟩
theorem aT181 : T.AllI (fun n i => Tryz.prog.info? n = some i) 32 33 tTypes181 := ⟨fun x h => (by cases h; exact info_of Tryz.type33), aT171, aT180⟩
theorem aZ181 : T.AllI (fun _ i => zeroB i = true) 32 33 tTypes181 := ⟨fun x h => (by cases h; exact (show zeroB Tryz.t33 = true by kernel_rfl)), aZ171, aZ180⟩
theorem aT182 : T.AllI (fun n i => Tryz.prog.info? n = some i) 512 529 tTypes182 := ⟨fun x h => (by cases h; exact info_of Tryz.type529), trivial, trivial⟩
theorem aZ182 : T.AllI (fun _ i => zeroB i = true) 512 529 tTypes182 := ⟨fun x h => (by cases h; exact (show zeroB Tryz.t529 = true by kernel_rfl)), trivial, trivial⟩
theorem aT183 : T.AllI (fun n i => Tryz.prog.info? n = some i) 256 273 tTypes183 := ⟨fun x h => (by cases h; exact info_of Tryz.type273), aT182, trivial⟩
theorem aZ183 : T.AllI (fun _ i => zeroB i = true) 256 273 tTypes183 := ⟨fun x h => (by cases h; exact (show zeroB Tryz.t273 = true by kernel_rfl)), aZ182, trivial⟩
theorem aT184 : T.AllI (fun n i => Tryz.prog.info? n = some i) 256 401 tTypes184 := ⟨fun x h => (by cases h; exact info_of Tryz.type401), trivial, trivial⟩
theorem aZ184 : T.AllI (fun _ i => zeroB i = true) 256 401 tTypes184 := ⟨fun x h => (by cases h; exact (show zeroB Tryz.t401 = true by kernel_rfl)), trivial, trivial⟩
theorem aT185 : T.AllI (fun n i => Tryz.prog.info? n = some i) 128 145 tTypes185 := ⟨fun x h => (by cases h; exact info_of Tryz.type145), aT183, aT184⟩
theorem aZ185 : T.AllI (fun _ i => zeroB i = true) 128 145 tTypes185 := ⟨fun x h => (by cases h; exact (show zeroB Tryz.t145 = true by kernel_rfl)), aZ183, aZ184⟩
theorem aT186 : T.AllI (fun n i => Tryz.prog.info? n = some i) 512 593 tTypes186 := ⟨fun x h => (by cases h; exact info_of Tryz.type593), trivial, trivial⟩
theorem aZ186 : T.AllI (fun _ i => zeroB i = true) 512 593 tTypes186 := ⟨fun x h => (by cases h; exact (show zeroB Tryz.t593 = true by kernel_rfl)), trivial, trivial⟩
theorem aT187 : T.AllI (fun n i => Tryz.prog.info? n = some i) 256 337 tTypes187 := ⟨fun x h => (by cases h; exact info_of Tryz.type337), aT186, trivial⟩
theorem aZ187 : T.AllI (fun _ i => zeroB i = true) 256 337 tTypes187 := ⟨fun x h => (by cases h; exact (show zeroB Tryz.t337 = true by kernel_rfl)), aZ186, trivial⟩
theorem aT188 : T.AllI (fun n i => Tryz.prog.info? n = some i) 256 465 tTypes188 := ⟨fun x h => (by cases h; exact info_of Tryz.type465), trivial, trivial⟩
theorem aZ188 : T.AllI (fun _ i => zeroB i = true) 256 465 tTypes188 := ⟨fun x h => (by cases h; exact (show zeroB Tryz.t465 = true by kernel_rfl)), trivial, trivial⟩
theorem aT189 : T.AllI (fun n i => Tryz.prog.info? n = some i) 128 209 tTypes189 := ⟨fun x h => (by cases h; exact info_of Tryz.type209), aT187, aT188⟩
theorem aZ189 : T.AllI (fun _ i => zeroB i = true) 128 209 tTypes189 := ⟨fun x h => (by cases h; exact (show zeroB Tryz.t209 = true by kernel_rfl)), aZ187, aZ188⟩
theorem aT190 : T.AllI (fun n i => Tryz.prog.info? n = some i) 64 81 tTypes190 := ⟨fun x h => (by cases h; exact info_of Tryz.type81), aT185, aT189⟩
theorem aZ190 : T.AllI (fun _ i => zeroB i = true) 64 81 tTypes190 := ⟨fun x h => (by cases h; exact (show zeroB Tryz.t81 = true by kernel_rfl)), aZ185, aZ189⟩
theorem aT191 : T.AllI (fun n i => Tryz.prog.info? n = some i) 512 561 tTypes191 := ⟨fun x h => (by cases h; exact info_of Tryz.type561), trivial, trivial⟩
theorem aZ191 : T.AllI (fun _ i => zeroB i = true) 512 561 tTypes191 := ⟨fun x h => (by cases h; exact (show zeroB Tryz.t561 = true by kernel_rfl)), trivial, trivial⟩
theorem aT192 : T.AllI (fun n i => Tryz.prog.info? n = some i) 256 305 tTypes192 := ⟨fun x h => (by cases h; exact info_of Tryz.type305), aT191, trivial⟩
theorem aZ192 : T.AllI (fun _ i => zeroB i = true) 256 305 tTypes192 := ⟨fun x h => (by cases h; exact (show zeroB Tryz.t305 = true by kernel_rfl)), aZ191, trivial⟩
theorem aT193 : T.AllI (fun n i => Tryz.prog.info? n = some i) 256 433 tTypes193 := ⟨fun x h => (by cases h; exact info_of Tryz.type433), trivial, trivial⟩
theorem aZ193 : T.AllI (fun _ i => zeroB i = true) 256 433 tTypes193 := ⟨fun x h => (by cases h; exact (show zeroB Tryz.t433 = true by kernel_rfl)), trivial, trivial⟩
theorem aT194 : T.AllI (fun n i => Tryz.prog.info? n = some i) 128 177 tTypes194 := ⟨fun x h => (by cases h; exact info_of Tryz.type177), aT192, aT193⟩
theorem aZ194 : T.AllI (fun _ i => zeroB i = true) 128 177 tTypes194 := ⟨fun x h => (by cases h; exact (show zeroB Tryz.t177 = true by kernel_rfl)), aZ192, aZ193⟩
theorem aT195 : T.AllI (fun n i => Tryz.prog.info? n = some i) 512 625 tTypes195 := ⟨fun x h => (by cases h; exact info_of Tryz.type625), trivial, trivial⟩
theorem aZ195 : T.AllI (fun _ i => zeroB i = true) 512 625 tTypes195 := ⟨fun x h => (by cases h; exact (show zeroB Tryz.t625 = true by kernel_rfl)), trivial, trivial⟩
theorem aT196 : T.AllI (fun n i => Tryz.prog.info? n = some i) 256 369 tTypes196 := ⟨fun x h => (by cases h; exact info_of Tryz.type369), aT195, trivial⟩
theorem aZ196 : T.AllI (fun _ i => zeroB i = true) 256 369 tTypes196 := ⟨fun x h => (by cases h; exact (show zeroB Tryz.t369 = true by kernel_rfl)), aZ195, trivial⟩
theorem aT197 : T.AllI (fun n i => Tryz.prog.info? n = some i) 256 497 tTypes197 := ⟨fun x h => (by cases h; exact info_of Tryz.type497), trivial, trivial⟩
theorem aZ197 : T.AllI (fun _ i => zeroB i = true) 256 497 tTypes197 := ⟨fun x h => (by cases h; exact (show zeroB Tryz.t497 = true by kernel_rfl)), trivial, trivial⟩
theorem aT198 : T.AllI (fun n i => Tryz.prog.info? n = some i) 128 241 tTypes198 := ⟨fun x h => (by cases h; exact info_of Tryz.type241), aT196, aT197⟩
theorem aZ198 : T.AllI (fun _ i => zeroB i = true) 128 241 tTypes198 := ⟨fun x h => (by cases h; exact (show zeroB Tryz.t241 = true by kernel_rfl)), aZ196, aZ197⟩
theorem aT199 : T.AllI (fun n i => Tryz.prog.info? n = some i) 64 113 tTypes199 := ⟨fun x h => (by cases h; exact info_of Tryz.type113), aT194, aT198⟩
theorem aZ199 : T.AllI (fun _ i => zeroB i = true) 64 113 tTypes199 := ⟨fun x h => (by cases h; exact (show zeroB Tryz.t113 = true by kernel_rfl)), aZ194, aZ198⟩
theorem aT200 : T.AllI (fun n i => Tryz.prog.info? n = some i) 32 49 tTypes200 := ⟨fun x h => (by cases h; exact info_of Tryz.type49), aT190, aT199⟩
theorem aZ200 : T.AllI (fun _ i => zeroB i = true) 32 49 tTypes200 := ⟨fun x h => (by cases h; exact (show zeroB Tryz.t49 = true by kernel_rfl)), aZ190, aZ199⟩
theorem aT201 : T.AllI (fun n i => Tryz.prog.info? n = some i) 16 17 tTypes201 := ⟨fun x h => (by cases h; exact info_of Tryz.type17), aT181, aT200⟩
theorem aZ201 : T.AllI (fun _ i => zeroB i = true) 16 17 tTypes201 := ⟨fun x h => (by cases h; exact (show zeroB Tryz.t17 = true by kernel_rfl)), aZ181, aZ200⟩
theorem aT202 : T.AllI (fun n i => Tryz.prog.info? n = some i) 512 521 tTypes202 := ⟨fun x h => (by cases h; exact info_of Tryz.type521), trivial, trivial⟩
theorem aZ202 : T.AllI (fun _ i => zeroB i = true) 512 521 tTypes202 := ⟨fun x h => (by cases h; exact (show zeroB Tryz.t521 = true by kernel_rfl)), trivial, trivial⟩
theorem aT203 : T.AllI (fun n i => Tryz.prog.info? n = some i) 256 265 tTypes203 := ⟨fun x h => (by cases h; exact info_of Tryz.type265), aT202, trivial⟩
theorem aZ203 : T.AllI (fun _ i => zeroB i = true) 256 265 tTypes203 := ⟨fun x h => (by cases h; exact (show zeroB Tryz.t265 = true by kernel_rfl)), aZ202, trivial⟩
theorem aT204 : T.AllI (fun n i => Tryz.prog.info? n = some i) 512 649 tTypes204 := ⟨fun x h => (by cases h; exact info_of Tryz.type649), trivial, trivial⟩
theorem aZ204 : T.AllI (fun _ i => zeroB i = true) 512 649 tTypes204 := ⟨fun x h => (by cases h; exact (show zeroB Tryz.t649 = true by kernel_rfl)), trivial, trivial⟩
theorem aT205 : T.AllI (fun n i => Tryz.prog.info? n = some i) 256 393 tTypes205 := ⟨fun x h => (by cases h; exact info_of Tryz.type393), aT204, trivial⟩
theorem aZ205 : T.AllI (fun _ i => zeroB i = true) 256 393 tTypes205 := ⟨fun x h => (by cases h; exact (show zeroB Tryz.t393 = true by kernel_rfl)), aZ204, trivial⟩
theorem aT206 : T.AllI (fun n i => Tryz.prog.info? n = some i) 128 137 tTypes206 := ⟨fun x h => (by cases h; exact info_of Tryz.type137), aT203, aT205⟩
theorem aZ206 : T.AllI (fun _ i => zeroB i = true) 128 137 tTypes206 := ⟨fun x h => (by cases h; exact (show zeroB Tryz.t137 = true by kernel_rfl)), aZ203, aZ205⟩
theorem aT207 : T.AllI (fun n i => Tryz.prog.info? n = some i) 512 585 tTypes207 := ⟨fun x h => (by cases h; exact info_of Tryz.type585), trivial, trivial⟩
theorem aZ207 : T.AllI (fun _ i => zeroB i = true) 512 585 tTypes207 := ⟨fun x h => (by cases h; exact (show zeroB Tryz.t585 = true by kernel_rfl)), trivial, trivial⟩
theorem aT208 : T.AllI (fun n i => Tryz.prog.info? n = some i) 256 329 tTypes208 := ⟨fun x h => (by cases h; exact info_of Tryz.type329), aT207, trivial⟩
theorem aZ208 : T.AllI (fun _ i => zeroB i = true) 256 329 tTypes208 := ⟨fun x h => (by cases h; exact (show zeroB Tryz.t329 = true by kernel_rfl)), aZ207, trivial⟩
theorem aT209 : T.AllI (fun n i => Tryz.prog.info? n = some i) 256 457 tTypes209 := ⟨fun x h => (by cases h; exact info_of Tryz.type457), trivial, trivial⟩
theorem aZ209 : T.AllI (fun _ i => zeroB i = true) 256 457 tTypes209 := ⟨fun x h => (by cases h; exact (show zeroB Tryz.t457 = true by kernel_rfl)), trivial, trivial⟩
theorem aT210 : T.AllI (fun n i => Tryz.prog.info? n = some i) 128 201 tTypes210 := ⟨fun x h => (by cases h; exact info_of Tryz.type201), aT208, aT209⟩
theorem aZ210 : T.AllI (fun _ i => zeroB i = true) 128 201 tTypes210 := ⟨fun x h => (by cases h; exact (show zeroB Tryz.t201 = true by kernel_rfl)), aZ208, aZ209⟩
theorem aT211 : T.AllI (fun n i => Tryz.prog.info? n = some i) 64 73 tTypes211 := ⟨fun x h => (by cases h; exact info_of Tryz.type73), aT206, aT210⟩
theorem aZ211 : T.AllI (fun _ i => zeroB i = true) 64 73 tTypes211 := ⟨fun x h => (by cases h; exact (show zeroB Tryz.t73 = true by kernel_rfl)), aZ206, aZ210⟩
theorem aT212 : T.AllI (fun n i => Tryz.prog.info? n = some i) 512 553 tTypes212 := ⟨fun x h => (by cases h; exact info_of Tryz.type553), trivial, trivial⟩
theorem aZ212 : T.AllI (fun _ i => zeroB i = true) 512 553 tTypes212 := ⟨fun x h => (by cases h; exact (show zeroB Tryz.t553 = true by kernel_rfl)), trivial, trivial⟩
theorem aT213 : T.AllI (fun n i => Tryz.prog.info? n = some i) 256 297 tTypes213 := ⟨fun x h => (by cases h; exact info_of Tryz.type297), aT212, trivial⟩
theorem aZ213 : T.AllI (fun _ i => zeroB i = true) 256 297 tTypes213 := ⟨fun x h => (by cases h; exact (show zeroB Tryz.t297 = true by kernel_rfl)), aZ212, trivial⟩
theorem aT214 : T.AllI (fun n i => Tryz.prog.info? n = some i) 256 425 tTypes214 := ⟨fun x h => (by cases h; exact info_of Tryz.type425), trivial, trivial⟩
theorem aZ214 : T.AllI (fun _ i => zeroB i = true) 256 425 tTypes214 := ⟨fun x h => (by cases h; exact (show zeroB Tryz.t425 = true by kernel_rfl)), trivial, trivial⟩
theorem aT215 : T.AllI (fun n i => Tryz.prog.info? n = some i) 128 169 tTypes215 := ⟨fun x h => (by cases h; exact info_of Tryz.type169), aT213, aT214⟩
theorem aZ215 : T.AllI (fun _ i => zeroB i = true) 128 169 tTypes215 := ⟨fun x h => (by cases h; exact (show zeroB Tryz.t169 = true by kernel_rfl)), aZ213, aZ214⟩
theorem aT216 : T.AllI (fun n i => Tryz.prog.info? n = some i) 512 617 tTypes216 := ⟨fun x h => (by cases h; exact info_of Tryz.type617), trivial, trivial⟩
theorem aZ216 : T.AllI (fun _ i => zeroB i = true) 512 617 tTypes216 := ⟨fun x h => (by cases h; exact (show zeroB Tryz.t617 = true by kernel_rfl)), trivial, trivial⟩
theorem aT217 : T.AllI (fun n i => Tryz.prog.info? n = some i) 256 361 tTypes217 := ⟨fun x h => (by cases h; exact info_of Tryz.type361), aT216, trivial⟩
theorem aZ217 : T.AllI (fun _ i => zeroB i = true) 256 361 tTypes217 := ⟨fun x h => (by cases h; exact (show zeroB Tryz.t361 = true by kernel_rfl)), aZ216, trivial⟩
theorem aT218 : T.AllI (fun n i => Tryz.prog.info? n = some i) 256 489 tTypes218 := ⟨fun x h => (by cases h; exact info_of Tryz.type489), trivial, trivial⟩
theorem aZ218 : T.AllI (fun _ i => zeroB i = true) 256 489 tTypes218 := ⟨fun x h => (by cases h; exact (show zeroB Tryz.t489 = true by kernel_rfl)), trivial, trivial⟩
theorem aT219 : T.AllI (fun n i => Tryz.prog.info? n = some i) 128 233 tTypes219 := ⟨fun x h => (by cases h; exact info_of Tryz.type233), aT217, aT218⟩
theorem aZ219 : T.AllI (fun _ i => zeroB i = true) 128 233 tTypes219 := ⟨fun x h => (by cases h; exact (show zeroB Tryz.t233 = true by kernel_rfl)), aZ217, aZ218⟩
theorem aT220 : T.AllI (fun n i => Tryz.prog.info? n = some i) 64 105 tTypes220 := ⟨fun x h => (by cases h; exact info_of Tryz.type105), aT215, aT219⟩
theorem aZ220 : T.AllI (fun _ i => zeroB i = true) 64 105 tTypes220 := ⟨fun x h => (by cases h; exact (show zeroB Tryz.t105 = true by kernel_rfl)), aZ215, aZ219⟩
theorem aT221 : T.AllI (fun n i => Tryz.prog.info? n = some i) 32 41 tTypes221 := ⟨fun x h => (by cases h; exact info_of Tryz.type41), aT211, aT220⟩
theorem aZ221 : T.AllI (fun _ i => zeroB i = true) 32 41 tTypes221 := ⟨fun x h => (by cases h; exact (show zeroB Tryz.t41 = true by kernel_rfl)), aZ211, aZ220⟩
theorem aT222 : T.AllI (fun n i => Tryz.prog.info? n = some i) 512 537 tTypes222 := ⟨fun x h => (by cases h; exact info_of Tryz.type537), trivial, trivial⟩
theorem aZ222 : T.AllI (fun _ i => zeroB i = true) 512 537 tTypes222 := ⟨fun x h => (by cases h; exact (show zeroB Tryz.t537 = true by kernel_rfl)), trivial, trivial⟩
theorem aT223 : T.AllI (fun n i => Tryz.prog.info? n = some i) 256 281 tTypes223 := ⟨fun x h => (by cases h; exact info_of Tryz.type281), aT222, trivial⟩
theorem aZ223 : T.AllI (fun _ i => zeroB i = true) 256 281 tTypes223 := ⟨fun x h => (by cases h; exact (show zeroB Tryz.t281 = true by kernel_rfl)), aZ222, trivial⟩
theorem aT224 : T.AllI (fun n i => Tryz.prog.info? n = some i) 256 409 tTypes224 := ⟨fun x h => (by cases h; exact info_of Tryz.type409), trivial, trivial⟩
theorem aZ224 : T.AllI (fun _ i => zeroB i = true) 256 409 tTypes224 := ⟨fun x h => (by cases h; exact (show zeroB Tryz.t409 = true by kernel_rfl)), trivial, trivial⟩
theorem aT225 : T.AllI (fun n i => Tryz.prog.info? n = some i) 128 153 tTypes225 := ⟨fun x h => (by cases h; exact info_of Tryz.type153), aT223, aT224⟩
theorem aZ225 : T.AllI (fun _ i => zeroB i = true) 128 153 tTypes225 := ⟨fun x h => (by cases h; exact (show zeroB Tryz.t153 = true by kernel_rfl)), aZ223, aZ224⟩
theorem aT226 : T.AllI (fun n i => Tryz.prog.info? n = some i) 512 601 tTypes226 := ⟨fun x h => (by cases h; exact info_of Tryz.type601), trivial, trivial⟩
theorem aZ226 : T.AllI (fun _ i => zeroB i = true) 512 601 tTypes226 := ⟨fun x h => (by cases h; exact (show zeroB Tryz.t601 = true by kernel_rfl)), trivial, trivial⟩
theorem aT227 : T.AllI (fun n i => Tryz.prog.info? n = some i) 256 345 tTypes227 := ⟨fun x h => (by cases h; exact info_of Tryz.type345), aT226, trivial⟩
theorem aZ227 : T.AllI (fun _ i => zeroB i = true) 256 345 tTypes227 := ⟨fun x h => (by cases h; exact (show zeroB Tryz.t345 = true by kernel_rfl)), aZ226, trivial⟩
theorem aT228 : T.AllI (fun n i => Tryz.prog.info? n = some i) 256 473 tTypes228 := ⟨fun x h => (by cases h; exact info_of Tryz.type473), trivial, trivial⟩
theorem aZ228 : T.AllI (fun _ i => zeroB i = true) 256 473 tTypes228 := ⟨fun x h => (by cases h; exact (show zeroB Tryz.t473 = true by kernel_rfl)), trivial, trivial⟩
theorem aT229 : T.AllI (fun n i => Tryz.prog.info? n = some i) 128 217 tTypes229 := ⟨fun x h => (by cases h; exact info_of Tryz.type217), aT227, aT228⟩
theorem aZ229 : T.AllI (fun _ i => zeroB i = true) 128 217 tTypes229 := ⟨fun x h => (by cases h; exact (show zeroB Tryz.t217 = true by kernel_rfl)), aZ227, aZ228⟩
theorem aT230 : T.AllI (fun n i => Tryz.prog.info? n = some i) 64 89 tTypes230 := ⟨fun x h => (by cases h; exact info_of Tryz.type89), aT225, aT229⟩
theorem aZ230 : T.AllI (fun _ i => zeroB i = true) 64 89 tTypes230 := ⟨fun x h => (by cases h; exact (show zeroB Tryz.t89 = true by kernel_rfl)), aZ225, aZ229⟩
theorem aT231 : T.AllI (fun n i => Tryz.prog.info? n = some i) 512 569 tTypes231 := ⟨fun x h => (by cases h; exact info_of Tryz.type569), trivial, trivial⟩
theorem aZ231 : T.AllI (fun _ i => zeroB i = true) 512 569 tTypes231 := ⟨fun x h => (by cases h; exact (show zeroB Tryz.t569 = true by kernel_rfl)), trivial, trivial⟩
theorem aT232 : T.AllI (fun n i => Tryz.prog.info? n = some i) 256 313 tTypes232 := ⟨fun x h => (by cases h; exact info_of Tryz.type313), aT231, trivial⟩
theorem aZ232 : T.AllI (fun _ i => zeroB i = true) 256 313 tTypes232 := ⟨fun x h => (by cases h; exact (show zeroB Tryz.t313 = true by kernel_rfl)), aZ231, trivial⟩
theorem aT233 : T.AllI (fun n i => Tryz.prog.info? n = some i) 256 441 tTypes233 := ⟨fun x h => (by cases h; exact info_of Tryz.type441), trivial, trivial⟩
theorem aZ233 : T.AllI (fun _ i => zeroB i = true) 256 441 tTypes233 := ⟨fun x h => (by cases h; exact (show zeroB Tryz.t441 = true by kernel_rfl)), trivial, trivial⟩
theorem aT234 : T.AllI (fun n i => Tryz.prog.info? n = some i) 128 185 tTypes234 := ⟨fun x h => (by cases h; exact info_of Tryz.type185), aT232, aT233⟩
theorem aZ234 : T.AllI (fun _ i => zeroB i = true) 128 185 tTypes234 := ⟨fun x h => (by cases h; exact (show zeroB Tryz.t185 = true by kernel_rfl)), aZ232, aZ233⟩
theorem aT235 : T.AllI (fun n i => Tryz.prog.info? n = some i) 512 633 tTypes235 := ⟨fun x h => (by cases h; exact info_of Tryz.type633), trivial, trivial⟩
theorem aZ235 : T.AllI (fun _ i => zeroB i = true) 512 633 tTypes235 := ⟨fun x h => (by cases h; exact (show zeroB Tryz.t633 = true by kernel_rfl)), trivial, trivial⟩
theorem aT236 : T.AllI (fun n i => Tryz.prog.info? n = some i) 256 377 tTypes236 := ⟨fun x h => (by cases h; exact info_of Tryz.type377), aT235, trivial⟩
theorem aZ236 : T.AllI (fun _ i => zeroB i = true) 256 377 tTypes236 := ⟨fun x h => (by cases h; exact (show zeroB Tryz.t377 = true by kernel_rfl)), aZ235, trivial⟩
theorem aT237 : T.AllI (fun n i => Tryz.prog.info? n = some i) 256 505 tTypes237 := ⟨fun x h => (by cases h; exact info_of Tryz.type505), trivial, trivial⟩
theorem aZ237 : T.AllI (fun _ i => zeroB i = true) 256 505 tTypes237 := ⟨fun x h => (by cases h; exact (show zeroB Tryz.t505 = true by kernel_rfl)), trivial, trivial⟩
theorem aT238 : T.AllI (fun n i => Tryz.prog.info? n = some i) 128 249 tTypes238 := ⟨fun x h => (by cases h; exact info_of Tryz.type249), aT236, aT237⟩
theorem aZ238 : T.AllI (fun _ i => zeroB i = true) 128 249 tTypes238 := ⟨fun x h => (by cases h; exact (show zeroB Tryz.t249 = true by kernel_rfl)), aZ236, aZ237⟩
theorem aT239 : T.AllI (fun n i => Tryz.prog.info? n = some i) 64 121 tTypes239 := ⟨fun x h => (by cases h; exact info_of Tryz.type121), aT234, aT238⟩
theorem aZ239 : T.AllI (fun _ i => zeroB i = true) 64 121 tTypes239 := ⟨fun x h => (by cases h; exact (show zeroB Tryz.t121 = true by kernel_rfl)), aZ234, aZ238⟩
theorem aT240 : T.AllI (fun n i => Tryz.prog.info? n = some i) 32 57 tTypes240 := ⟨fun x h => (by cases h; exact info_of Tryz.type57), aT230, aT239⟩
theorem aZ240 : T.AllI (fun _ i => zeroB i = true) 32 57 tTypes240 := ⟨fun x h => (by cases h; exact (show zeroB Tryz.t57 = true by kernel_rfl)), aZ230, aZ239⟩
theorem aT241 : T.AllI (fun n i => Tryz.prog.info? n = some i) 16 25 tTypes241 := ⟨fun x h => (by cases h; exact info_of Tryz.type25), aT221, aT240⟩
theorem aZ241 : T.AllI (fun _ i => zeroB i = true) 16 25 tTypes241 := ⟨fun x h => (by cases h; exact (show zeroB Tryz.t25 = true by kernel_rfl)), aZ221, aZ240⟩
theorem aT242 : T.AllI (fun n i => Tryz.prog.info? n = some i) 8 9 tTypes242 := ⟨fun x h => (by cases h; exact info_of Tryz.type9), aT201, aT241⟩
theorem aZ242 : T.AllI (fun _ i => zeroB i = true) 8 9 tTypes242 := ⟨fun x h => (by cases h; exact (show zeroB Tryz.t9 = true by kernel_rfl)), aZ201, aZ241⟩
theorem aT243 : T.AllI (fun n i => Tryz.prog.info? n = some i) 512 517 tTypes243 := ⟨fun x h => (by cases h; exact info_of Tryz.type517), trivial, trivial⟩
theorem aZ243 : T.AllI (fun _ i => zeroB i = true) 512 517 tTypes243 := ⟨fun x h => (by cases h; exact (show zeroB Tryz.t517 = true by kernel_rfl)), trivial, trivial⟩
theorem aT244 : T.AllI (fun n i => Tryz.prog.info? n = some i) 256 261 tTypes244 := ⟨fun x h => (by cases h; exact info_of Tryz.type261), aT243, trivial⟩
theorem aZ244 : T.AllI (fun _ i => zeroB i = true) 256 261 tTypes244 := ⟨fun x h => (by cases h; exact (show zeroB Tryz.t261 = true by kernel_rfl)), aZ243, trivial⟩
theorem aT245 : T.AllI (fun n i => Tryz.prog.info? n = some i) 512 645 tTypes245 := ⟨fun x h => (by cases h; exact info_of Tryz.type645), trivial, trivial⟩
theorem aZ245 : T.AllI (fun _ i => zeroB i = true) 512 645 tTypes245 := ⟨fun x h => (by cases h; exact (show zeroB Tryz.t645 = true by kernel_rfl)), trivial, trivial⟩
theorem aT246 : T.AllI (fun n i => Tryz.prog.info? n = some i) 256 389 tTypes246 := ⟨fun x h => (by cases h; exact info_of Tryz.type389), aT245, trivial⟩
theorem aZ246 : T.AllI (fun _ i => zeroB i = true) 256 389 tTypes246 := ⟨fun x h => (by cases h; exact (show zeroB Tryz.t389 = true by kernel_rfl)), aZ245, trivial⟩
theorem aT247 : T.AllI (fun n i => Tryz.prog.info? n = some i) 128 133 tTypes247 := ⟨fun x h => (by cases h; exact info_of Tryz.type133), aT244, aT246⟩
theorem aZ247 : T.AllI (fun _ i => zeroB i = true) 128 133 tTypes247 := ⟨fun x h => (by cases h; exact (show zeroB Tryz.t133 = true by kernel_rfl)), aZ244, aZ246⟩
theorem aT248 : T.AllI (fun n i => Tryz.prog.info? n = some i) 512 581 tTypes248 := ⟨fun x h => (by cases h; exact info_of Tryz.type581), trivial, trivial⟩
theorem aZ248 : T.AllI (fun _ i => zeroB i = true) 512 581 tTypes248 := ⟨fun x h => (by cases h; exact (show zeroB Tryz.t581 = true by kernel_rfl)), trivial, trivial⟩
theorem aT249 : T.AllI (fun n i => Tryz.prog.info? n = some i) 256 325 tTypes249 := ⟨fun x h => (by cases h; exact info_of Tryz.type325), aT248, trivial⟩
theorem aZ249 : T.AllI (fun _ i => zeroB i = true) 256 325 tTypes249 := ⟨fun x h => (by cases h; exact (show zeroB Tryz.t325 = true by kernel_rfl)), aZ248, trivial⟩
theorem aT250 : T.AllI (fun n i => Tryz.prog.info? n = some i) 256 453 tTypes250 := ⟨fun x h => (by cases h; exact info_of Tryz.type453), trivial, trivial⟩
theorem aZ250 : T.AllI (fun _ i => zeroB i = true) 256 453 tTypes250 := ⟨fun x h => (by cases h; exact (show zeroB Tryz.t453 = true by kernel_rfl)), trivial, trivial⟩
theorem aT251 : T.AllI (fun n i => Tryz.prog.info? n = some i) 128 197 tTypes251 := ⟨fun x h => (by cases h; exact info_of Tryz.type197), aT249, aT250⟩
theorem aZ251 : T.AllI (fun _ i => zeroB i = true) 128 197 tTypes251 := ⟨fun x h => (by cases h; exact (show zeroB Tryz.t197 = true by kernel_rfl)), aZ249, aZ250⟩
theorem aT252 : T.AllI (fun n i => Tryz.prog.info? n = some i) 64 69 tTypes252 := ⟨fun x h => (by cases h; exact info_of Tryz.type69), aT247, aT251⟩
theorem aZ252 : T.AllI (fun _ i => zeroB i = true) 64 69 tTypes252 := ⟨fun x h => (by cases h; exact (show zeroB Tryz.t69 = true by kernel_rfl)), aZ247, aZ251⟩
theorem aT253 : T.AllI (fun n i => Tryz.prog.info? n = some i) 512 549 tTypes253 := ⟨fun x h => (by cases h; exact info_of Tryz.type549), trivial, trivial⟩
theorem aZ253 : T.AllI (fun _ i => zeroB i = true) 512 549 tTypes253 := ⟨fun x h => (by cases h; exact (show zeroB Tryz.t549 = true by kernel_rfl)), trivial, trivial⟩
theorem aT254 : T.AllI (fun n i => Tryz.prog.info? n = some i) 256 293 tTypes254 := ⟨fun x h => (by cases h; exact info_of Tryz.type293), aT253, trivial⟩
theorem aZ254 : T.AllI (fun _ i => zeroB i = true) 256 293 tTypes254 := ⟨fun x h => (by cases h; exact (show zeroB Tryz.t293 = true by kernel_rfl)), aZ253, trivial⟩
theorem aT255 : T.AllI (fun n i => Tryz.prog.info? n = some i) 256 421 tTypes255 := ⟨fun x h => (by cases h; exact info_of Tryz.type421), trivial, trivial⟩
theorem aZ255 : T.AllI (fun _ i => zeroB i = true) 256 421 tTypes255 := ⟨fun x h => (by cases h; exact (show zeroB Tryz.t421 = true by kernel_rfl)), trivial, trivial⟩
theorem aT256 : T.AllI (fun n i => Tryz.prog.info? n = some i) 128 165 tTypes256 := ⟨fun x h => (by cases h; exact info_of Tryz.type165), aT254, aT255⟩
theorem aZ256 : T.AllI (fun _ i => zeroB i = true) 128 165 tTypes256 := ⟨fun x h => (by cases h; exact (show zeroB Tryz.t165 = true by kernel_rfl)), aZ254, aZ255⟩
theorem aT257 : T.AllI (fun n i => Tryz.prog.info? n = some i) 512 613 tTypes257 := ⟨fun x h => (by cases h; exact info_of Tryz.type613), trivial, trivial⟩
theorem aZ257 : T.AllI (fun _ i => zeroB i = true) 512 613 tTypes257 := ⟨fun x h => (by cases h; exact (show zeroB Tryz.t613 = true by kernel_rfl)), trivial, trivial⟩
theorem aT258 : T.AllI (fun n i => Tryz.prog.info? n = some i) 256 357 tTypes258 := ⟨fun x h => (by cases h; exact info_of Tryz.type357), aT257, trivial⟩
theorem aZ258 : T.AllI (fun _ i => zeroB i = true) 256 357 tTypes258 := ⟨fun x h => (by cases h; exact (show zeroB Tryz.t357 = true by kernel_rfl)), aZ257, trivial⟩
theorem aT259 : T.AllI (fun n i => Tryz.prog.info? n = some i) 256 485 tTypes259 := ⟨fun x h => (by cases h; exact info_of Tryz.type485), trivial, trivial⟩
theorem aZ259 : T.AllI (fun _ i => zeroB i = true) 256 485 tTypes259 := ⟨fun x h => (by cases h; exact (show zeroB Tryz.t485 = true by kernel_rfl)), trivial, trivial⟩
theorem aT260 : T.AllI (fun n i => Tryz.prog.info? n = some i) 128 229 tTypes260 := ⟨fun x h => (by cases h; exact info_of Tryz.type229), aT258, aT259⟩
theorem aZ260 : T.AllI (fun _ i => zeroB i = true) 128 229 tTypes260 := ⟨fun x h => (by cases h; exact (show zeroB Tryz.t229 = true by kernel_rfl)), aZ258, aZ259⟩
theorem aT261 : T.AllI (fun n i => Tryz.prog.info? n = some i) 64 101 tTypes261 := ⟨fun x h => (by cases h; exact info_of Tryz.type101), aT256, aT260⟩
theorem aZ261 : T.AllI (fun _ i => zeroB i = true) 64 101 tTypes261 := ⟨fun x h => (by cases h; exact (show zeroB Tryz.t101 = true by kernel_rfl)), aZ256, aZ260⟩
theorem aT262 : T.AllI (fun n i => Tryz.prog.info? n = some i) 32 37 tTypes262 := ⟨fun x h => (by cases h; exact info_of Tryz.type37), aT252, aT261⟩
theorem aZ262 : T.AllI (fun _ i => zeroB i = true) 32 37 tTypes262 := ⟨fun x h => (by cases h; exact (show zeroB Tryz.t37 = true by kernel_rfl)), aZ252, aZ261⟩
theorem aT263 : T.AllI (fun n i => Tryz.prog.info? n = some i) 512 533 tTypes263 := ⟨fun x h => (by cases h; exact info_of Tryz.type533), trivial, trivial⟩
theorem aZ263 : T.AllI (fun _ i => zeroB i = true) 512 533 tTypes263 := ⟨fun x h => (by cases h; exact (show zeroB Tryz.t533 = true by kernel_rfl)), trivial, trivial⟩
theorem aT264 : T.AllI (fun n i => Tryz.prog.info? n = some i) 256 277 tTypes264 := ⟨fun x h => (by cases h; exact info_of Tryz.type277), aT263, trivial⟩
theorem aZ264 : T.AllI (fun _ i => zeroB i = true) 256 277 tTypes264 := ⟨fun x h => (by cases h; exact (show zeroB Tryz.t277 = true by kernel_rfl)), aZ263, trivial⟩
theorem aT265 : T.AllI (fun n i => Tryz.prog.info? n = some i) 256 405 tTypes265 := ⟨fun x h => (by cases h; exact info_of Tryz.type405), trivial, trivial⟩
theorem aZ265 : T.AllI (fun _ i => zeroB i = true) 256 405 tTypes265 := ⟨fun x h => (by cases h; exact (show zeroB Tryz.t405 = true by kernel_rfl)), trivial, trivial⟩
theorem aT266 : T.AllI (fun n i => Tryz.prog.info? n = some i) 128 149 tTypes266 := ⟨fun x h => (by cases h; exact info_of Tryz.type149), aT264, aT265⟩
theorem aZ266 : T.AllI (fun _ i => zeroB i = true) 128 149 tTypes266 := ⟨fun x h => (by cases h; exact (show zeroB Tryz.t149 = true by kernel_rfl)), aZ264, aZ265⟩
theorem aT267 : T.AllI (fun n i => Tryz.prog.info? n = some i) 512 597 tTypes267 := ⟨fun x h => (by cases h; exact info_of Tryz.type597), trivial, trivial⟩
theorem aZ267 : T.AllI (fun _ i => zeroB i = true) 512 597 tTypes267 := ⟨fun x h => (by cases h; exact (show zeroB Tryz.t597 = true by kernel_rfl)), trivial, trivial⟩
theorem aT268 : T.AllI (fun n i => Tryz.prog.info? n = some i) 256 341 tTypes268 := ⟨fun x h => (by cases h; exact info_of Tryz.type341), aT267, trivial⟩
theorem aZ268 : T.AllI (fun _ i => zeroB i = true) 256 341 tTypes268 := ⟨fun x h => (by cases h; exact (show zeroB Tryz.t341 = true by kernel_rfl)), aZ267, trivial⟩
theorem aT269 : T.AllI (fun n i => Tryz.prog.info? n = some i) 256 469 tTypes269 := ⟨fun x h => (by cases h; exact info_of Tryz.type469), trivial, trivial⟩
theorem aZ269 : T.AllI (fun _ i => zeroB i = true) 256 469 tTypes269 := ⟨fun x h => (by cases h; exact (show zeroB Tryz.t469 = true by kernel_rfl)), trivial, trivial⟩
theorem aT270 : T.AllI (fun n i => Tryz.prog.info? n = some i) 128 213 tTypes270 := ⟨fun x h => (by cases h; exact info_of Tryz.type213), aT268, aT269⟩
theorem aZ270 : T.AllI (fun _ i => zeroB i = true) 128 213 tTypes270 := ⟨fun x h => (by cases h; exact (show zeroB Tryz.t213 = true by kernel_rfl)), aZ268, aZ269⟩
theorem aT271 : T.AllI (fun n i => Tryz.prog.info? n = some i) 64 85 tTypes271 := ⟨fun x h => (by cases h; exact info_of Tryz.type85), aT266, aT270⟩
theorem aZ271 : T.AllI (fun _ i => zeroB i = true) 64 85 tTypes271 := ⟨fun x h => (by cases h; exact (show zeroB Tryz.t85 = true by kernel_rfl)), aZ266, aZ270⟩
theorem aT272 : T.AllI (fun n i => Tryz.prog.info? n = some i) 512 565 tTypes272 := ⟨fun x h => (by cases h; exact info_of Tryz.type565), trivial, trivial⟩
theorem aZ272 : T.AllI (fun _ i => zeroB i = true) 512 565 tTypes272 := ⟨fun x h => (by cases h; exact (show zeroB Tryz.t565 = true by kernel_rfl)), trivial, trivial⟩
theorem aT273 : T.AllI (fun n i => Tryz.prog.info? n = some i) 256 309 tTypes273 := ⟨fun x h => (by cases h; exact info_of Tryz.type309), aT272, trivial⟩
theorem aZ273 : T.AllI (fun _ i => zeroB i = true) 256 309 tTypes273 := ⟨fun x h => (by cases h; exact (show zeroB Tryz.t309 = true by kernel_rfl)), aZ272, trivial⟩
theorem aT274 : T.AllI (fun n i => Tryz.prog.info? n = some i) 256 437 tTypes274 := ⟨fun x h => (by cases h; exact info_of Tryz.type437), trivial, trivial⟩
theorem aZ274 : T.AllI (fun _ i => zeroB i = true) 256 437 tTypes274 := ⟨fun x h => (by cases h; exact (show zeroB Tryz.t437 = true by kernel_rfl)), trivial, trivial⟩
theorem aT275 : T.AllI (fun n i => Tryz.prog.info? n = some i) 128 181 tTypes275 := ⟨fun x h => (by cases h; exact info_of Tryz.type181), aT273, aT274⟩
theorem aZ275 : T.AllI (fun _ i => zeroB i = true) 128 181 tTypes275 := ⟨fun x h => (by cases h; exact (show zeroB Tryz.t181 = true by kernel_rfl)), aZ273, aZ274⟩
theorem aT276 : T.AllI (fun n i => Tryz.prog.info? n = some i) 512 629 tTypes276 := ⟨fun x h => (by cases h; exact info_of Tryz.type629), trivial, trivial⟩
theorem aZ276 : T.AllI (fun _ i => zeroB i = true) 512 629 tTypes276 := ⟨fun x h => (by cases h; exact (show zeroB Tryz.t629 = true by kernel_rfl)), trivial, trivial⟩
theorem aT277 : T.AllI (fun n i => Tryz.prog.info? n = some i) 256 373 tTypes277 := ⟨fun x h => (by cases h; exact info_of Tryz.type373), aT276, trivial⟩
theorem aZ277 : T.AllI (fun _ i => zeroB i = true) 256 373 tTypes277 := ⟨fun x h => (by cases h; exact (show zeroB Tryz.t373 = true by kernel_rfl)), aZ276, trivial⟩
theorem aT278 : T.AllI (fun n i => Tryz.prog.info? n = some i) 256 501 tTypes278 := ⟨fun x h => (by cases h; exact info_of Tryz.type501), trivial, trivial⟩
theorem aZ278 : T.AllI (fun _ i => zeroB i = true) 256 501 tTypes278 := ⟨fun x h => (by cases h; exact (show zeroB Tryz.t501 = true by kernel_rfl)), trivial, trivial⟩
theorem aT279 : T.AllI (fun n i => Tryz.prog.info? n = some i) 128 245 tTypes279 := ⟨fun x h => (by cases h; exact info_of Tryz.type245), aT277, aT278⟩
theorem aZ279 : T.AllI (fun _ i => zeroB i = true) 128 245 tTypes279 := ⟨fun x h => (by cases h; exact (show zeroB Tryz.t245 = true by kernel_rfl)), aZ277, aZ278⟩
theorem aT280 : T.AllI (fun n i => Tryz.prog.info? n = some i) 64 117 tTypes280 := ⟨fun x h => (by cases h; exact info_of Tryz.type117), aT275, aT279⟩
theorem aZ280 : T.AllI (fun _ i => zeroB i = true) 64 117 tTypes280 := ⟨fun x h => (by cases h; exact (show zeroB Tryz.t117 = true by kernel_rfl)), aZ275, aZ279⟩
theorem aT281 : T.AllI (fun n i => Tryz.prog.info? n = some i) 32 53 tTypes281 := ⟨fun x h => (by cases h; exact info_of Tryz.type53), aT271, aT280⟩
theorem aZ281 : T.AllI (fun _ i => zeroB i = true) 32 53 tTypes281 := ⟨fun x h => (by cases h; exact (show zeroB Tryz.t53 = true by kernel_rfl)), aZ271, aZ280⟩
theorem aT282 : T.AllI (fun n i => Tryz.prog.info? n = some i) 16 21 tTypes282 := ⟨fun x h => (by cases h; exact info_of Tryz.type21), aT262, aT281⟩
theorem aZ282 : T.AllI (fun _ i => zeroB i = true) 16 21 tTypes282 := ⟨fun x h => (by cases h; exact (show zeroB Tryz.t21 = true by kernel_rfl)), aZ262, aZ281⟩
theorem aT283 : T.AllI (fun n i => Tryz.prog.info? n = some i) 512 525 tTypes283 := ⟨fun x h => (by cases h; exact info_of Tryz.type525), trivial, trivial⟩
theorem aZ283 : T.AllI (fun _ i => zeroB i = true) 512 525 tTypes283 := ⟨fun x h => (by cases h; exact (show zeroB Tryz.t525 = true by kernel_rfl)), trivial, trivial⟩
theorem aT284 : T.AllI (fun n i => Tryz.prog.info? n = some i) 256 269 tTypes284 := ⟨fun x h => (by cases h; exact info_of Tryz.type269), aT283, trivial⟩
theorem aZ284 : T.AllI (fun _ i => zeroB i = true) 256 269 tTypes284 := ⟨fun x h => (by cases h; exact (show zeroB Tryz.t269 = true by kernel_rfl)), aZ283, trivial⟩
theorem aT285 : T.AllI (fun n i => Tryz.prog.info? n = some i) 256 397 tTypes285 := ⟨fun x h => (by cases h; exact info_of Tryz.type397), trivial, trivial⟩
theorem aZ285 : T.AllI (fun _ i => zeroB i = true) 256 397 tTypes285 := ⟨fun x h => (by cases h; exact (show zeroB Tryz.t397 = true by kernel_rfl)), trivial, trivial⟩
theorem aT286 : T.AllI (fun n i => Tryz.prog.info? n = some i) 128 141 tTypes286 := ⟨fun x h => (by cases h; exact info_of Tryz.type141), aT284, aT285⟩
theorem aZ286 : T.AllI (fun _ i => zeroB i = true) 128 141 tTypes286 := ⟨fun x h => (by cases h; exact (show zeroB Tryz.t141 = true by kernel_rfl)), aZ284, aZ285⟩
theorem aT287 : T.AllI (fun n i => Tryz.prog.info? n = some i) 512 589 tTypes287 := ⟨fun x h => (by cases h; exact info_of Tryz.type589), trivial, trivial⟩
theorem aZ287 : T.AllI (fun _ i => zeroB i = true) 512 589 tTypes287 := ⟨fun x h => (by cases h; exact (show zeroB Tryz.t589 = true by kernel_rfl)), trivial, trivial⟩
theorem aT288 : T.AllI (fun n i => Tryz.prog.info? n = some i) 256 333 tTypes288 := ⟨fun x h => (by cases h; exact info_of Tryz.type333), aT287, trivial⟩
theorem aZ288 : T.AllI (fun _ i => zeroB i = true) 256 333 tTypes288 := ⟨fun x h => (by cases h; exact (show zeroB Tryz.t333 = true by kernel_rfl)), aZ287, trivial⟩
theorem aT289 : T.AllI (fun n i => Tryz.prog.info? n = some i) 256 461 tTypes289 := ⟨fun x h => (by cases h; exact info_of Tryz.type461), trivial, trivial⟩
theorem aZ289 : T.AllI (fun _ i => zeroB i = true) 256 461 tTypes289 := ⟨fun x h => (by cases h; exact (show zeroB Tryz.t461 = true by kernel_rfl)), trivial, trivial⟩
theorem aT290 : T.AllI (fun n i => Tryz.prog.info? n = some i) 128 205 tTypes290 := ⟨fun x h => (by cases h; exact info_of Tryz.type205), aT288, aT289⟩
theorem aZ290 : T.AllI (fun _ i => zeroB i = true) 128 205 tTypes290 := ⟨fun x h => (by cases h; exact (show zeroB Tryz.t205 = true by kernel_rfl)), aZ288, aZ289⟩
theorem aT291 : T.AllI (fun n i => Tryz.prog.info? n = some i) 64 77 tTypes291 := ⟨fun x h => (by cases h; exact info_of Tryz.type77), aT286, aT290⟩
theorem aZ291 : T.AllI (fun _ i => zeroB i = true) 64 77 tTypes291 := ⟨fun x h => (by cases h; exact (show zeroB Tryz.t77 = true by kernel_rfl)), aZ286, aZ290⟩
theorem aT292 : T.AllI (fun n i => Tryz.prog.info? n = some i) 512 557 tTypes292 := ⟨fun x h => (by cases h; exact info_of Tryz.type557), trivial, trivial⟩
theorem aZ292 : T.AllI (fun _ i => zeroB i = true) 512 557 tTypes292 := ⟨fun x h => (by cases h; exact (show zeroB Tryz.t557 = true by kernel_rfl)), trivial, trivial⟩
theorem aT293 : T.AllI (fun n i => Tryz.prog.info? n = some i) 256 301 tTypes293 := ⟨fun x h => (by cases h; exact info_of Tryz.type301), aT292, trivial⟩
theorem aZ293 : T.AllI (fun _ i => zeroB i = true) 256 301 tTypes293 := ⟨fun x h => (by cases h; exact (show zeroB Tryz.t301 = true by kernel_rfl)), aZ292, trivial⟩
theorem aT294 : T.AllI (fun n i => Tryz.prog.info? n = some i) 256 429 tTypes294 := ⟨fun x h => (by cases h; exact info_of Tryz.type429), trivial, trivial⟩
theorem aZ294 : T.AllI (fun _ i => zeroB i = true) 256 429 tTypes294 := ⟨fun x h => (by cases h; exact (show zeroB Tryz.t429 = true by kernel_rfl)), trivial, trivial⟩
theorem aT295 : T.AllI (fun n i => Tryz.prog.info? n = some i) 128 173 tTypes295 := ⟨fun x h => (by cases h; exact info_of Tryz.type173), aT293, aT294⟩
theorem aZ295 : T.AllI (fun _ i => zeroB i = true) 128 173 tTypes295 := ⟨fun x h => (by cases h; exact (show zeroB Tryz.t173 = true by kernel_rfl)), aZ293, aZ294⟩
theorem aT296 : T.AllI (fun n i => Tryz.prog.info? n = some i) 512 621 tTypes296 := ⟨fun x h => (by cases h; exact info_of Tryz.type621), trivial, trivial⟩
theorem aZ296 : T.AllI (fun _ i => zeroB i = true) 512 621 tTypes296 := ⟨fun x h => (by cases h; exact (show zeroB Tryz.t621 = true by kernel_rfl)), trivial, trivial⟩
theorem aT297 : T.AllI (fun n i => Tryz.prog.info? n = some i) 256 365 tTypes297 := ⟨fun x h => (by cases h; exact info_of Tryz.type365), aT296, trivial⟩
theorem aZ297 : T.AllI (fun _ i => zeroB i = true) 256 365 tTypes297 := ⟨fun x h => (by cases h; exact (show zeroB Tryz.t365 = true by kernel_rfl)), aZ296, trivial⟩
theorem aT298 : T.AllI (fun n i => Tryz.prog.info? n = some i) 256 493 tTypes298 := ⟨fun x h => (by cases h; exact info_of Tryz.type493), trivial, trivial⟩
theorem aZ298 : T.AllI (fun _ i => zeroB i = true) 256 493 tTypes298 := ⟨fun x h => (by cases h; exact (show zeroB Tryz.t493 = true by kernel_rfl)), trivial, trivial⟩
theorem aT299 : T.AllI (fun n i => Tryz.prog.info? n = some i) 128 237 tTypes299 := ⟨fun x h => (by cases h; exact info_of Tryz.type237), aT297, aT298⟩
theorem aZ299 : T.AllI (fun _ i => zeroB i = true) 128 237 tTypes299 := ⟨fun x h => (by cases h; exact (show zeroB Tryz.t237 = true by kernel_rfl)), aZ297, aZ298⟩
theorem aT300 : T.AllI (fun n i => Tryz.prog.info? n = some i) 64 109 tTypes300 := ⟨fun x h => (by cases h; exact info_of Tryz.type109), aT295, aT299⟩
theorem aZ300 : T.AllI (fun _ i => zeroB i = true) 64 109 tTypes300 := ⟨fun x h => (by cases h; exact (show zeroB Tryz.t109 = true by kernel_rfl)), aZ295, aZ299⟩
theorem aT301 : T.AllI (fun n i => Tryz.prog.info? n = some i) 32 45 tTypes301 := ⟨fun x h => (by cases h; exact info_of Tryz.type45), aT291, aT300⟩
theorem aZ301 : T.AllI (fun _ i => zeroB i = true) 32 45 tTypes301 := ⟨fun x h => (by cases h; exact (show zeroB Tryz.t45 = true by kernel_rfl)), aZ291, aZ300⟩
theorem aT302 : T.AllI (fun n i => Tryz.prog.info? n = some i) 512 541 tTypes302 := ⟨fun x h => (by cases h; exact info_of Tryz.type541), trivial, trivial⟩
theorem aZ302 : T.AllI (fun _ i => zeroB i = true) 512 541 tTypes302 := ⟨fun x h => (by cases h; exact (show zeroB Tryz.t541 = true by kernel_rfl)), trivial, trivial⟩
theorem aT303 : T.AllI (fun n i => Tryz.prog.info? n = some i) 256 285 tTypes303 := ⟨fun x h => (by cases h; exact info_of Tryz.type285), aT302, trivial⟩
theorem aZ303 : T.AllI (fun _ i => zeroB i = true) 256 285 tTypes303 := ⟨fun x h => (by cases h; exact (show zeroB Tryz.t285 = true by kernel_rfl)), aZ302, trivial⟩
theorem aT304 : T.AllI (fun n i => Tryz.prog.info? n = some i) 256 413 tTypes304 := ⟨fun x h => (by cases h; exact info_of Tryz.type413), trivial, trivial⟩
theorem aZ304 : T.AllI (fun _ i => zeroB i = true) 256 413 tTypes304 := ⟨fun x h => (by cases h; exact (show zeroB Tryz.t413 = true by kernel_rfl)), trivial, trivial⟩
theorem aT305 : T.AllI (fun n i => Tryz.prog.info? n = some i) 128 157 tTypes305 := ⟨fun x h => (by cases h; exact info_of Tryz.type157), aT303, aT304⟩
theorem aZ305 : T.AllI (fun _ i => zeroB i = true) 128 157 tTypes305 := ⟨fun x h => (by cases h; exact (show zeroB Tryz.t157 = true by kernel_rfl)), aZ303, aZ304⟩
theorem aT306 : T.AllI (fun n i => Tryz.prog.info? n = some i) 512 605 tTypes306 := ⟨fun x h => (by cases h; exact info_of Tryz.type605), trivial, trivial⟩
theorem aZ306 : T.AllI (fun _ i => zeroB i = true) 512 605 tTypes306 := ⟨fun x h => (by cases h; exact (show zeroB Tryz.t605 = true by kernel_rfl)), trivial, trivial⟩
theorem aT307 : T.AllI (fun n i => Tryz.prog.info? n = some i) 256 349 tTypes307 := ⟨fun x h => (by cases h; exact info_of Tryz.type349), aT306, trivial⟩
theorem aZ307 : T.AllI (fun _ i => zeroB i = true) 256 349 tTypes307 := ⟨fun x h => (by cases h; exact (show zeroB Tryz.t349 = true by kernel_rfl)), aZ306, trivial⟩
theorem aT308 : T.AllI (fun n i => Tryz.prog.info? n = some i) 256 477 tTypes308 := ⟨fun x h => (by cases h; exact info_of Tryz.type477), trivial, trivial⟩
theorem aZ308 : T.AllI (fun _ i => zeroB i = true) 256 477 tTypes308 := ⟨fun x h => (by cases h; exact (show zeroB Tryz.t477 = true by kernel_rfl)), trivial, trivial⟩
theorem aT309 : T.AllI (fun n i => Tryz.prog.info? n = some i) 128 221 tTypes309 := ⟨fun x h => (by cases h; exact info_of Tryz.type221), aT307, aT308⟩
theorem aZ309 : T.AllI (fun _ i => zeroB i = true) 128 221 tTypes309 := ⟨fun x h => (by cases h; exact (show zeroB Tryz.t221 = true by kernel_rfl)), aZ307, aZ308⟩
theorem aT310 : T.AllI (fun n i => Tryz.prog.info? n = some i) 64 93 tTypes310 := ⟨fun x h => (by cases h; exact info_of Tryz.type93), aT305, aT309⟩
theorem aZ310 : T.AllI (fun _ i => zeroB i = true) 64 93 tTypes310 := ⟨fun x h => (by cases h; exact (show zeroB Tryz.t93 = true by kernel_rfl)), aZ305, aZ309⟩
theorem aT311 : T.AllI (fun n i => Tryz.prog.info? n = some i) 512 573 tTypes311 := ⟨fun x h => (by cases h; exact info_of Tryz.type573), trivial, trivial⟩
theorem aZ311 : T.AllI (fun _ i => zeroB i = true) 512 573 tTypes311 := ⟨fun x h => (by cases h; exact (show zeroB Tryz.t573 = true by kernel_rfl)), trivial, trivial⟩
theorem aT312 : T.AllI (fun n i => Tryz.prog.info? n = some i) 256 317 tTypes312 := ⟨fun x h => (by cases h; exact info_of Tryz.type317), aT311, trivial⟩
theorem aZ312 : T.AllI (fun _ i => zeroB i = true) 256 317 tTypes312 := ⟨fun x h => (by cases h; exact (show zeroB Tryz.t317 = true by kernel_rfl)), aZ311, trivial⟩
theorem aT313 : T.AllI (fun n i => Tryz.prog.info? n = some i) 256 445 tTypes313 := ⟨fun x h => (by cases h; exact info_of Tryz.type445), trivial, trivial⟩
theorem aZ313 : T.AllI (fun _ i => zeroB i = true) 256 445 tTypes313 := ⟨fun x h => (by cases h; exact (show zeroB Tryz.t445 = true by kernel_rfl)), trivial, trivial⟩
theorem aT314 : T.AllI (fun n i => Tryz.prog.info? n = some i) 128 189 tTypes314 := ⟨fun x h => (by cases h; exact info_of Tryz.type189), aT312, aT313⟩
theorem aZ314 : T.AllI (fun _ i => zeroB i = true) 128 189 tTypes314 := ⟨fun x h => (by cases h; exact (show zeroB Tryz.t189 = true by kernel_rfl)), aZ312, aZ313⟩
theorem aT315 : T.AllI (fun n i => Tryz.prog.info? n = some i) 512 637 tTypes315 := ⟨fun x h => (by cases h; exact info_of Tryz.type637), trivial, trivial⟩
theorem aZ315 : T.AllI (fun _ i => zeroB i = true) 512 637 tTypes315 := ⟨fun x h => (by cases h; exact (show zeroB Tryz.t637 = true by kernel_rfl)), trivial, trivial⟩
theorem aT316 : T.AllI (fun n i => Tryz.prog.info? n = some i) 256 381 tTypes316 := ⟨fun x h => (by cases h; exact info_of Tryz.type381), aT315, trivial⟩
theorem aZ316 : T.AllI (fun _ i => zeroB i = true) 256 381 tTypes316 := ⟨fun x h => (by cases h; exact (show zeroB Tryz.t381 = true by kernel_rfl)), aZ315, trivial⟩
theorem aT317 : T.AllI (fun n i => Tryz.prog.info? n = some i) 256 509 tTypes317 := ⟨fun x h => (by cases h; exact info_of Tryz.type509), trivial, trivial⟩
theorem aZ317 : T.AllI (fun _ i => zeroB i = true) 256 509 tTypes317 := ⟨fun x h => (by cases h; exact (show zeroB Tryz.t509 = true by kernel_rfl)), trivial, trivial⟩
theorem aT318 : T.AllI (fun n i => Tryz.prog.info? n = some i) 128 253 tTypes318 := ⟨fun x h => (by cases h; exact info_of Tryz.type253), aT316, aT317⟩
theorem aZ318 : T.AllI (fun _ i => zeroB i = true) 128 253 tTypes318 := ⟨fun x h => (by cases h; exact (show zeroB Tryz.t253 = true by kernel_rfl)), aZ316, aZ317⟩
theorem aT319 : T.AllI (fun n i => Tryz.prog.info? n = some i) 64 125 tTypes319 := ⟨fun x h => (by cases h; exact info_of Tryz.type125), aT314, aT318⟩
theorem aZ319 : T.AllI (fun _ i => zeroB i = true) 64 125 tTypes319 := ⟨fun x h => (by cases h; exact (show zeroB Tryz.t125 = true by kernel_rfl)), aZ314, aZ318⟩
theorem aT320 : T.AllI (fun n i => Tryz.prog.info? n = some i) 32 61 tTypes320 := ⟨fun x h => (by cases h; exact info_of Tryz.type61), aT310, aT319⟩
theorem aZ320 : T.AllI (fun _ i => zeroB i = true) 32 61 tTypes320 := ⟨fun x h => (by cases h; exact (show zeroB Tryz.t61 = true by kernel_rfl)), aZ310, aZ319⟩
theorem aT321 : T.AllI (fun n i => Tryz.prog.info? n = some i) 16 29 tTypes321 := ⟨fun x h => (by cases h; exact info_of Tryz.type29), aT301, aT320⟩
theorem aZ321 : T.AllI (fun _ i => zeroB i = true) 16 29 tTypes321 := ⟨fun x h => (by cases h; exact (show zeroB Tryz.t29 = true by kernel_rfl)), aZ301, aZ320⟩
theorem aT322 : T.AllI (fun n i => Tryz.prog.info? n = some i) 8 13 tTypes322 := ⟨fun x h => (by cases h; exact info_of Tryz.type13), aT282, aT321⟩
theorem aZ322 : T.AllI (fun _ i => zeroB i = true) 8 13 tTypes322 := ⟨fun x h => (by cases h; exact (show zeroB Tryz.t13 = true by kernel_rfl)), aZ282, aZ321⟩
theorem aT323 : T.AllI (fun n i => Tryz.prog.info? n = some i) 4 5 tTypes323 := ⟨fun x h => (by cases h; exact info_of Tryz.type5), aT242, aT322⟩
theorem aZ323 : T.AllI (fun _ i => zeroB i = true) 4 5 tTypes323 := ⟨fun x h => (by cases h; exact (show zeroB Tryz.t5 = true by kernel_rfl)), aZ242, aZ322⟩
theorem aT324 : T.AllI (fun n i => Tryz.prog.info? n = some i) 2 1 tTypes324 := ⟨fun x h => (by cases h; exact info_of Tryz.type1), aT161, aT323⟩
theorem aZ324 : T.AllI (fun _ i => zeroB i = true) 2 1 tTypes324 := ⟨fun x h => (by cases h; exact (show zeroB Tryz.t1 = true by kernel_rfl)), aZ161, aZ323⟩
theorem aT325 : T.AllI (fun n i => Tryz.prog.info? n = some i) 512 512 tTypes325 := ⟨fun x h => (by cases h; exact info_of Tryz.type512), trivial, trivial⟩
theorem aZ325 : T.AllI (fun _ i => zeroB i = true) 512 512 tTypes325 := ⟨fun x h => (by cases h; exact (show zeroB Tryz.t512 = true by kernel_rfl)), trivial, trivial⟩
theorem aT326 : T.AllI (fun n i => Tryz.prog.info? n = some i) 256 256 tTypes326 := ⟨fun x h => (by cases h; exact info_of Tryz.type256), aT325, trivial⟩
theorem aZ326 : T.AllI (fun _ i => zeroB i = true) 256 256 tTypes326 := ⟨fun x h => (by cases h; exact (show zeroB Tryz.t256 = true by kernel_rfl)), aZ325, trivial⟩
theorem aT327 : T.AllI (fun n i => Tryz.prog.info? n = some i) 512 640 tTypes327 := ⟨fun x h => (by cases h; exact info_of Tryz.type640), trivial, trivial⟩
theorem aZ327 : T.AllI (fun _ i => zeroB i = true) 512 640 tTypes327 := ⟨fun x h => (by cases h; exact (show zeroB Tryz.t640 = true by kernel_rfl)), trivial, trivial⟩
theorem aT328 : T.AllI (fun n i => Tryz.prog.info? n = some i) 256 384 tTypes328 := ⟨fun x h => (by cases h; exact info_of Tryz.type384), aT327, trivial⟩
theorem aZ328 : T.AllI (fun _ i => zeroB i = true) 256 384 tTypes328 := ⟨fun x h => (by cases h; exact (show zeroB Tryz.t384 = true by kernel_rfl)), aZ327, trivial⟩
theorem aT329 : T.AllI (fun n i => Tryz.prog.info? n = some i) 128 128 tTypes329 := ⟨fun x h => (by cases h; exact info_of Tryz.type128), aT326, aT328⟩
theorem aZ329 : T.AllI (fun _ i => zeroB i = true) 128 128 tTypes329 := ⟨fun x h => (by cases h; exact (show zeroB Tryz.t128 = true by kernel_rfl)), aZ326, aZ328⟩
theorem aT330 : T.AllI (fun n i => Tryz.prog.info? n = some i) 512 576 tTypes330 := ⟨fun x h => (by cases h; exact info_of Tryz.type576), trivial, trivial⟩
theorem aZ330 : T.AllI (fun _ i => zeroB i = true) 512 576 tTypes330 := ⟨fun x h => (by cases h; exact (show zeroB Tryz.t576 = true by kernel_rfl)), trivial, trivial⟩
theorem aT331 : T.AllI (fun n i => Tryz.prog.info? n = some i) 256 320 tTypes331 := ⟨fun x h => (by cases h; exact info_of Tryz.type320), aT330, trivial⟩
theorem aZ331 : T.AllI (fun _ i => zeroB i = true) 256 320 tTypes331 := ⟨fun x h => (by cases h; exact (show zeroB Tryz.t320 = true by kernel_rfl)), aZ330, trivial⟩
theorem aT332 : T.AllI (fun n i => Tryz.prog.info? n = some i) 256 448 tTypes332 := ⟨fun x h => (by cases h; exact info_of Tryz.type448), trivial, trivial⟩
theorem aZ332 : T.AllI (fun _ i => zeroB i = true) 256 448 tTypes332 := ⟨fun x h => (by cases h; exact (show zeroB Tryz.t448 = true by kernel_rfl)), trivial, trivial⟩
theorem aT333 : T.AllI (fun n i => Tryz.prog.info? n = some i) 128 192 tTypes333 := ⟨fun x h => (by cases h; exact info_of Tryz.type192), aT331, aT332⟩
theorem aZ333 : T.AllI (fun _ i => zeroB i = true) 128 192 tTypes333 := ⟨fun x h => (by cases h; exact (show zeroB Tryz.t192 = true by kernel_rfl)), aZ331, aZ332⟩
theorem aT334 : T.AllI (fun n i => Tryz.prog.info? n = some i) 64 64 tTypes334 := ⟨fun x h => (by cases h; exact info_of Tryz.type64), aT329, aT333⟩
theorem aZ334 : T.AllI (fun _ i => zeroB i = true) 64 64 tTypes334 := ⟨fun x h => (by cases h; exact (show zeroB Tryz.t64 = true by kernel_rfl)), aZ329, aZ333⟩
theorem aT335 : T.AllI (fun n i => Tryz.prog.info? n = some i) 512 544 tTypes335 := ⟨fun x h => (by cases h; exact info_of Tryz.type544), trivial, trivial⟩
theorem aZ335 : T.AllI (fun _ i => zeroB i = true) 512 544 tTypes335 := ⟨fun x h => (by cases h; exact (show zeroB Tryz.t544 = true by kernel_rfl)), trivial, trivial⟩
theorem aT336 : T.AllI (fun n i => Tryz.prog.info? n = some i) 256 288 tTypes336 := ⟨fun x h => (by cases h; exact info_of Tryz.type288), aT335, trivial⟩
theorem aZ336 : T.AllI (fun _ i => zeroB i = true) 256 288 tTypes336 := ⟨fun x h => (by cases h; exact (show zeroB Tryz.t288 = true by kernel_rfl)), aZ335, trivial⟩
theorem aT337 : T.AllI (fun n i => Tryz.prog.info? n = some i) 256 416 tTypes337 := ⟨fun x h => (by cases h; exact info_of Tryz.type416), trivial, trivial⟩
theorem aZ337 : T.AllI (fun _ i => zeroB i = true) 256 416 tTypes337 := ⟨fun x h => (by cases h; exact (show zeroB Tryz.t416 = true by kernel_rfl)), trivial, trivial⟩
theorem aT338 : T.AllI (fun n i => Tryz.prog.info? n = some i) 128 160 tTypes338 := ⟨fun x h => (by cases h; exact info_of Tryz.type160), aT336, aT337⟩
theorem aZ338 : T.AllI (fun _ i => zeroB i = true) 128 160 tTypes338 := ⟨fun x h => (by cases h; exact (show zeroB Tryz.t160 = true by kernel_rfl)), aZ336, aZ337⟩
theorem aT339 : T.AllI (fun n i => Tryz.prog.info? n = some i) 512 608 tTypes339 := ⟨fun x h => (by cases h; exact info_of Tryz.type608), trivial, trivial⟩
theorem aZ339 : T.AllI (fun _ i => zeroB i = true) 512 608 tTypes339 := ⟨fun x h => (by cases h; exact (show zeroB Tryz.t608 = true by kernel_rfl)), trivial, trivial⟩
theorem aT340 : T.AllI (fun n i => Tryz.prog.info? n = some i) 256 352 tTypes340 := ⟨fun x h => (by cases h; exact info_of Tryz.type352), aT339, trivial⟩
theorem aZ340 : T.AllI (fun _ i => zeroB i = true) 256 352 tTypes340 := ⟨fun x h => (by cases h; exact (show zeroB Tryz.t352 = true by kernel_rfl)), aZ339, trivial⟩
theorem aT341 : T.AllI (fun n i => Tryz.prog.info? n = some i) 256 480 tTypes341 := ⟨fun x h => (by cases h; exact info_of Tryz.type480), trivial, trivial⟩
theorem aZ341 : T.AllI (fun _ i => zeroB i = true) 256 480 tTypes341 := ⟨fun x h => (by cases h; exact (show zeroB Tryz.t480 = true by kernel_rfl)), trivial, trivial⟩
theorem aT342 : T.AllI (fun n i => Tryz.prog.info? n = some i) 128 224 tTypes342 := ⟨fun x h => (by cases h; exact info_of Tryz.type224), aT340, aT341⟩
theorem aZ342 : T.AllI (fun _ i => zeroB i = true) 128 224 tTypes342 := ⟨fun x h => (by cases h; exact (show zeroB Tryz.t224 = true by kernel_rfl)), aZ340, aZ341⟩
theorem aT343 : T.AllI (fun n i => Tryz.prog.info? n = some i) 64 96 tTypes343 := ⟨fun x h => (by cases h; exact info_of Tryz.type96), aT338, aT342⟩
theorem aZ343 : T.AllI (fun _ i => zeroB i = true) 64 96 tTypes343 := ⟨fun x h => (by cases h; exact (show zeroB Tryz.t96 = true by kernel_rfl)), aZ338, aZ342⟩
theorem aT344 : T.AllI (fun n i => Tryz.prog.info? n = some i) 32 32 tTypes344 := ⟨fun x h => (by cases h; exact info_of Tryz.type32), aT334, aT343⟩
theorem aZ344 : T.AllI (fun _ i => zeroB i = true) 32 32 tTypes344 := ⟨fun x h => (by cases h; exact (show zeroB Tryz.t32 = true by kernel_rfl)), aZ334, aZ343⟩
theorem aT345 : T.AllI (fun n i => Tryz.prog.info? n = some i) 512 528 tTypes345 := ⟨fun x h => (by cases h; exact info_of Tryz.type528), trivial, trivial⟩
theorem aZ345 : T.AllI (fun _ i => zeroB i = true) 512 528 tTypes345 := ⟨fun x h => (by cases h; exact (show zeroB Tryz.t528 = true by kernel_rfl)), trivial, trivial⟩
theorem aT346 : T.AllI (fun n i => Tryz.prog.info? n = some i) 256 272 tTypes346 := ⟨fun x h => (by cases h; exact info_of Tryz.type272), aT345, trivial⟩
theorem aZ346 : T.AllI (fun _ i => zeroB i = true) 256 272 tTypes346 := ⟨fun x h => (by cases h; exact (show zeroB Tryz.t272 = true by kernel_rfl)), aZ345, trivial⟩
theorem aT347 : T.AllI (fun n i => Tryz.prog.info? n = some i) 256 400 tTypes347 := ⟨fun x h => (by cases h; exact info_of Tryz.type400), trivial, trivial⟩
theorem aZ347 : T.AllI (fun _ i => zeroB i = true) 256 400 tTypes347 := ⟨fun x h => (by cases h; exact (show zeroB Tryz.t400 = true by kernel_rfl)), trivial, trivial⟩
theorem aT348 : T.AllI (fun n i => Tryz.prog.info? n = some i) 128 144 tTypes348 := ⟨fun x h => (by cases h; exact info_of Tryz.type144), aT346, aT347⟩
theorem aZ348 : T.AllI (fun _ i => zeroB i = true) 128 144 tTypes348 := ⟨fun x h => (by cases h; exact (show zeroB Tryz.t144 = true by kernel_rfl)), aZ346, aZ347⟩
theorem aT349 : T.AllI (fun n i => Tryz.prog.info? n = some i) 512 592 tTypes349 := ⟨fun x h => (by cases h; exact info_of Tryz.type592), trivial, trivial⟩
theorem aZ349 : T.AllI (fun _ i => zeroB i = true) 512 592 tTypes349 := ⟨fun x h => (by cases h; exact (show zeroB Tryz.t592 = true by kernel_rfl)), trivial, trivial⟩
theorem aT350 : T.AllI (fun n i => Tryz.prog.info? n = some i) 256 336 tTypes350 := ⟨fun x h => (by cases h; exact info_of Tryz.type336), aT349, trivial⟩
theorem aZ350 : T.AllI (fun _ i => zeroB i = true) 256 336 tTypes350 := ⟨fun x h => (by cases h; exact (show zeroB Tryz.t336 = true by kernel_rfl)), aZ349, trivial⟩
theorem aT351 : T.AllI (fun n i => Tryz.prog.info? n = some i) 256 464 tTypes351 := ⟨fun x h => (by cases h; exact info_of Tryz.type464), trivial, trivial⟩
theorem aZ351 : T.AllI (fun _ i => zeroB i = true) 256 464 tTypes351 := ⟨fun x h => (by cases h; exact (show zeroB Tryz.t464 = true by kernel_rfl)), trivial, trivial⟩
theorem aT352 : T.AllI (fun n i => Tryz.prog.info? n = some i) 128 208 tTypes352 := ⟨fun x h => (by cases h; exact info_of Tryz.type208), aT350, aT351⟩
theorem aZ352 : T.AllI (fun _ i => zeroB i = true) 128 208 tTypes352 := ⟨fun x h => (by cases h; exact (show zeroB Tryz.t208 = true by kernel_rfl)), aZ350, aZ351⟩
theorem aT353 : T.AllI (fun n i => Tryz.prog.info? n = some i) 64 80 tTypes353 := ⟨fun x h => (by cases h; exact info_of Tryz.type80), aT348, aT352⟩
theorem aZ353 : T.AllI (fun _ i => zeroB i = true) 64 80 tTypes353 := ⟨fun x h => (by cases h; exact (show zeroB Tryz.t80 = true by kernel_rfl)), aZ348, aZ352⟩
theorem aT354 : T.AllI (fun n i => Tryz.prog.info? n = some i) 512 560 tTypes354 := ⟨fun x h => (by cases h; exact info_of Tryz.type560), trivial, trivial⟩
theorem aZ354 : T.AllI (fun _ i => zeroB i = true) 512 560 tTypes354 := ⟨fun x h => (by cases h; exact (show zeroB Tryz.t560 = true by kernel_rfl)), trivial, trivial⟩
theorem aT355 : T.AllI (fun n i => Tryz.prog.info? n = some i) 256 304 tTypes355 := ⟨fun x h => (by cases h; exact info_of Tryz.type304), aT354, trivial⟩
theorem aZ355 : T.AllI (fun _ i => zeroB i = true) 256 304 tTypes355 := ⟨fun x h => (by cases h; exact (show zeroB Tryz.t304 = true by kernel_rfl)), aZ354, trivial⟩
theorem aT356 : T.AllI (fun n i => Tryz.prog.info? n = some i) 256 432 tTypes356 := ⟨fun x h => (by cases h; exact info_of Tryz.type432), trivial, trivial⟩
theorem aZ356 : T.AllI (fun _ i => zeroB i = true) 256 432 tTypes356 := ⟨fun x h => (by cases h; exact (show zeroB Tryz.t432 = true by kernel_rfl)), trivial, trivial⟩
theorem aT357 : T.AllI (fun n i => Tryz.prog.info? n = some i) 128 176 tTypes357 := ⟨fun x h => (by cases h; exact info_of Tryz.type176), aT355, aT356⟩
theorem aZ357 : T.AllI (fun _ i => zeroB i = true) 128 176 tTypes357 := ⟨fun x h => (by cases h; exact (show zeroB Tryz.t176 = true by kernel_rfl)), aZ355, aZ356⟩
theorem aT358 : T.AllI (fun n i => Tryz.prog.info? n = some i) 512 624 tTypes358 := ⟨fun x h => (by cases h; exact info_of Tryz.type624), trivial, trivial⟩
theorem aZ358 : T.AllI (fun _ i => zeroB i = true) 512 624 tTypes358 := ⟨fun x h => (by cases h; exact (show zeroB Tryz.t624 = true by kernel_rfl)), trivial, trivial⟩
theorem aT359 : T.AllI (fun n i => Tryz.prog.info? n = some i) 256 368 tTypes359 := ⟨fun x h => (by cases h; exact info_of Tryz.type368), aT358, trivial⟩
theorem aZ359 : T.AllI (fun _ i => zeroB i = true) 256 368 tTypes359 := ⟨fun x h => (by cases h; exact (show zeroB Tryz.t368 = true by kernel_rfl)), aZ358, trivial⟩
theorem aT360 : T.AllI (fun n i => Tryz.prog.info? n = some i) 256 496 tTypes360 := ⟨fun x h => (by cases h; exact info_of Tryz.type496), trivial, trivial⟩
theorem aZ360 : T.AllI (fun _ i => zeroB i = true) 256 496 tTypes360 := ⟨fun x h => (by cases h; exact (show zeroB Tryz.t496 = true by kernel_rfl)), trivial, trivial⟩
theorem aT361 : T.AllI (fun n i => Tryz.prog.info? n = some i) 128 240 tTypes361 := ⟨fun x h => (by cases h; exact info_of Tryz.type240), aT359, aT360⟩
theorem aZ361 : T.AllI (fun _ i => zeroB i = true) 128 240 tTypes361 := ⟨fun x h => (by cases h; exact (show zeroB Tryz.t240 = true by kernel_rfl)), aZ359, aZ360⟩
theorem aT362 : T.AllI (fun n i => Tryz.prog.info? n = some i) 64 112 tTypes362 := ⟨fun x h => (by cases h; exact info_of Tryz.type112), aT357, aT361⟩
theorem aZ362 : T.AllI (fun _ i => zeroB i = true) 64 112 tTypes362 := ⟨fun x h => (by cases h; exact (show zeroB Tryz.t112 = true by kernel_rfl)), aZ357, aZ361⟩
theorem aT363 : T.AllI (fun n i => Tryz.prog.info? n = some i) 32 48 tTypes363 := ⟨fun x h => (by cases h; exact info_of Tryz.type48), aT353, aT362⟩
theorem aZ363 : T.AllI (fun _ i => zeroB i = true) 32 48 tTypes363 := ⟨fun x h => (by cases h; exact (show zeroB Tryz.t48 = true by kernel_rfl)), aZ353, aZ362⟩
theorem aT364 : T.AllI (fun n i => Tryz.prog.info? n = some i) 16 16 tTypes364 := ⟨fun x h => (by cases h; exact info_of Tryz.type16), aT344, aT363⟩
theorem aZ364 : T.AllI (fun _ i => zeroB i = true) 16 16 tTypes364 := ⟨fun x h => (by cases h; exact (show zeroB Tryz.t16 = true by kernel_rfl)), aZ344, aZ363⟩
theorem aT365 : T.AllI (fun n i => Tryz.prog.info? n = some i) 512 520 tTypes365 := ⟨fun x h => (by cases h; exact info_of Tryz.type520), trivial, trivial⟩
theorem aZ365 : T.AllI (fun _ i => zeroB i = true) 512 520 tTypes365 := ⟨fun x h => (by cases h; exact (show zeroB Tryz.t520 = true by kernel_rfl)), trivial, trivial⟩
theorem aT366 : T.AllI (fun n i => Tryz.prog.info? n = some i) 256 264 tTypes366 := ⟨fun x h => (by cases h; exact info_of Tryz.type264), aT365, trivial⟩
theorem aZ366 : T.AllI (fun _ i => zeroB i = true) 256 264 tTypes366 := ⟨fun x h => (by cases h; exact (show zeroB Tryz.t264 = true by kernel_rfl)), aZ365, trivial⟩
theorem aT367 : T.AllI (fun n i => Tryz.prog.info? n = some i) 512 648 tTypes367 := ⟨fun x h => (by cases h; exact info_of Tryz.type648), trivial, trivial⟩
theorem aZ367 : T.AllI (fun _ i => zeroB i = true) 512 648 tTypes367 := ⟨fun x h => (by cases h; exact (show zeroB Tryz.t648 = true by kernel_rfl)), trivial, trivial⟩
theorem aT368 : T.AllI (fun n i => Tryz.prog.info? n = some i) 256 392 tTypes368 := ⟨fun x h => (by cases h; exact info_of Tryz.type392), aT367, trivial⟩
theorem aZ368 : T.AllI (fun _ i => zeroB i = true) 256 392 tTypes368 := ⟨fun x h => (by cases h; exact (show zeroB Tryz.t392 = true by kernel_rfl)), aZ367, trivial⟩
theorem aT369 : T.AllI (fun n i => Tryz.prog.info? n = some i) 128 136 tTypes369 := ⟨fun x h => (by cases h; exact info_of Tryz.type136), aT366, aT368⟩
theorem aZ369 : T.AllI (fun _ i => zeroB i = true) 128 136 tTypes369 := ⟨fun x h => (by cases h; exact (show zeroB Tryz.t136 = true by kernel_rfl)), aZ366, aZ368⟩
theorem aT370 : T.AllI (fun n i => Tryz.prog.info? n = some i) 512 584 tTypes370 := ⟨fun x h => (by cases h; exact info_of Tryz.type584), trivial, trivial⟩
theorem aZ370 : T.AllI (fun _ i => zeroB i = true) 512 584 tTypes370 := ⟨fun x h => (by cases h; exact (show zeroB Tryz.t584 = true by kernel_rfl)), trivial, trivial⟩
theorem aT371 : T.AllI (fun n i => Tryz.prog.info? n = some i) 256 328 tTypes371 := ⟨fun x h => (by cases h; exact info_of Tryz.type328), aT370, trivial⟩
theorem aZ371 : T.AllI (fun _ i => zeroB i = true) 256 328 tTypes371 := ⟨fun x h => (by cases h; exact (show zeroB Tryz.t328 = true by kernel_rfl)), aZ370, trivial⟩
theorem aT372 : T.AllI (fun n i => Tryz.prog.info? n = some i) 256 456 tTypes372 := ⟨fun x h => (by cases h; exact info_of Tryz.type456), trivial, trivial⟩
theorem aZ372 : T.AllI (fun _ i => zeroB i = true) 256 456 tTypes372 := ⟨fun x h => (by cases h; exact (show zeroB Tryz.t456 = true by kernel_rfl)), trivial, trivial⟩
theorem aT373 : T.AllI (fun n i => Tryz.prog.info? n = some i) 128 200 tTypes373 := ⟨fun x h => (by cases h; exact info_of Tryz.type200), aT371, aT372⟩
theorem aZ373 : T.AllI (fun _ i => zeroB i = true) 128 200 tTypes373 := ⟨fun x h => (by cases h; exact (show zeroB Tryz.t200 = true by kernel_rfl)), aZ371, aZ372⟩
theorem aT374 : T.AllI (fun n i => Tryz.prog.info? n = some i) 64 72 tTypes374 := ⟨fun x h => (by cases h; exact info_of Tryz.type72), aT369, aT373⟩
theorem aZ374 : T.AllI (fun _ i => zeroB i = true) 64 72 tTypes374 := ⟨fun x h => (by cases h; exact (show zeroB Tryz.t72 = true by kernel_rfl)), aZ369, aZ373⟩
theorem aT375 : T.AllI (fun n i => Tryz.prog.info? n = some i) 512 552 tTypes375 := ⟨fun x h => (by cases h; exact info_of Tryz.type552), trivial, trivial⟩
theorem aZ375 : T.AllI (fun _ i => zeroB i = true) 512 552 tTypes375 := ⟨fun x h => (by cases h; exact (show zeroB Tryz.t552 = true by kernel_rfl)), trivial, trivial⟩
theorem aT376 : T.AllI (fun n i => Tryz.prog.info? n = some i) 256 296 tTypes376 := ⟨fun x h => (by cases h; exact info_of Tryz.type296), aT375, trivial⟩
theorem aZ376 : T.AllI (fun _ i => zeroB i = true) 256 296 tTypes376 := ⟨fun x h => (by cases h; exact (show zeroB Tryz.t296 = true by kernel_rfl)), aZ375, trivial⟩
theorem aT377 : T.AllI (fun n i => Tryz.prog.info? n = some i) 256 424 tTypes377 := ⟨fun x h => (by cases h; exact info_of Tryz.type424), trivial, trivial⟩
theorem aZ377 : T.AllI (fun _ i => zeroB i = true) 256 424 tTypes377 := ⟨fun x h => (by cases h; exact (show zeroB Tryz.t424 = true by kernel_rfl)), trivial, trivial⟩
theorem aT378 : T.AllI (fun n i => Tryz.prog.info? n = some i) 128 168 tTypes378 := ⟨fun x h => (by cases h; exact info_of Tryz.type168), aT376, aT377⟩
theorem aZ378 : T.AllI (fun _ i => zeroB i = true) 128 168 tTypes378 := ⟨fun x h => (by cases h; exact (show zeroB Tryz.t168 = true by kernel_rfl)), aZ376, aZ377⟩
theorem aT379 : T.AllI (fun n i => Tryz.prog.info? n = some i) 512 616 tTypes379 := ⟨fun x h => (by cases h; exact info_of Tryz.type616), trivial, trivial⟩
theorem aZ379 : T.AllI (fun _ i => zeroB i = true) 512 616 tTypes379 := ⟨fun x h => (by cases h; exact (show zeroB Tryz.t616 = true by kernel_rfl)), trivial, trivial⟩
theorem aT380 : T.AllI (fun n i => Tryz.prog.info? n = some i) 256 360 tTypes380 := ⟨fun x h => (by cases h; exact info_of Tryz.type360), aT379, trivial⟩
theorem aZ380 : T.AllI (fun _ i => zeroB i = true) 256 360 tTypes380 := ⟨fun x h => (by cases h; exact (show zeroB Tryz.t360 = true by kernel_rfl)), aZ379, trivial⟩
theorem aT381 : T.AllI (fun n i => Tryz.prog.info? n = some i) 256 488 tTypes381 := ⟨fun x h => (by cases h; exact info_of Tryz.type488), trivial, trivial⟩
theorem aZ381 : T.AllI (fun _ i => zeroB i = true) 256 488 tTypes381 := ⟨fun x h => (by cases h; exact (show zeroB Tryz.t488 = true by kernel_rfl)), trivial, trivial⟩
theorem aT382 : T.AllI (fun n i => Tryz.prog.info? n = some i) 128 232 tTypes382 := ⟨fun x h => (by cases h; exact info_of Tryz.type232), aT380, aT381⟩
theorem aZ382 : T.AllI (fun _ i => zeroB i = true) 128 232 tTypes382 := ⟨fun x h => (by cases h; exact (show zeroB Tryz.t232 = true by kernel_rfl)), aZ380, aZ381⟩
theorem aT383 : T.AllI (fun n i => Tryz.prog.info? n = some i) 64 104 tTypes383 := ⟨fun x h => (by cases h; exact info_of Tryz.type104), aT378, aT382⟩
theorem aZ383 : T.AllI (fun _ i => zeroB i = true) 64 104 tTypes383 := ⟨fun x h => (by cases h; exact (show zeroB Tryz.t104 = true by kernel_rfl)), aZ378, aZ382⟩
theorem aT384 : T.AllI (fun n i => Tryz.prog.info? n = some i) 32 40 tTypes384 := ⟨fun x h => (by cases h; exact info_of Tryz.type40), aT374, aT383⟩
theorem aZ384 : T.AllI (fun _ i => zeroB i = true) 32 40 tTypes384 := ⟨fun x h => (by cases h; exact (show zeroB Tryz.t40 = true by kernel_rfl)), aZ374, aZ383⟩
theorem aT385 : T.AllI (fun n i => Tryz.prog.info? n = some i) 512 536 tTypes385 := ⟨fun x h => (by cases h; exact info_of Tryz.type536), trivial, trivial⟩
theorem aZ385 : T.AllI (fun _ i => zeroB i = true) 512 536 tTypes385 := ⟨fun x h => (by cases h; exact (show zeroB Tryz.t536 = true by kernel_rfl)), trivial, trivial⟩
theorem aT386 : T.AllI (fun n i => Tryz.prog.info? n = some i) 256 280 tTypes386 := ⟨fun x h => (by cases h; exact info_of Tryz.type280), aT385, trivial⟩
theorem aZ386 : T.AllI (fun _ i => zeroB i = true) 256 280 tTypes386 := ⟨fun x h => (by cases h; exact (show zeroB Tryz.t280 = true by kernel_rfl)), aZ385, trivial⟩
theorem aT387 : T.AllI (fun n i => Tryz.prog.info? n = some i) 256 408 tTypes387 := ⟨fun x h => (by cases h; exact info_of Tryz.type408), trivial, trivial⟩
theorem aZ387 : T.AllI (fun _ i => zeroB i = true) 256 408 tTypes387 := ⟨fun x h => (by cases h; exact (show zeroB Tryz.t408 = true by kernel_rfl)), trivial, trivial⟩
theorem aT388 : T.AllI (fun n i => Tryz.prog.info? n = some i) 128 152 tTypes388 := ⟨fun x h => (by cases h; exact info_of Tryz.type152), aT386, aT387⟩
theorem aZ388 : T.AllI (fun _ i => zeroB i = true) 128 152 tTypes388 := ⟨fun x h => (by cases h; exact (show zeroB Tryz.t152 = true by kernel_rfl)), aZ386, aZ387⟩
theorem aT389 : T.AllI (fun n i => Tryz.prog.info? n = some i) 512 600 tTypes389 := ⟨fun x h => (by cases h; exact info_of Tryz.type600), trivial, trivial⟩
theorem aZ389 : T.AllI (fun _ i => zeroB i = true) 512 600 tTypes389 := ⟨fun x h => (by cases h; exact (show zeroB Tryz.t600 = true by kernel_rfl)), trivial, trivial⟩
theorem aT390 : T.AllI (fun n i => Tryz.prog.info? n = some i) 256 344 tTypes390 := ⟨fun x h => (by cases h; exact info_of Tryz.type344), aT389, trivial⟩
theorem aZ390 : T.AllI (fun _ i => zeroB i = true) 256 344 tTypes390 := ⟨fun x h => (by cases h; exact (show zeroB Tryz.t344 = true by kernel_rfl)), aZ389, trivial⟩
theorem aT391 : T.AllI (fun n i => Tryz.prog.info? n = some i) 256 472 tTypes391 := ⟨fun x h => (by cases h; exact info_of Tryz.type472), trivial, trivial⟩
theorem aZ391 : T.AllI (fun _ i => zeroB i = true) 256 472 tTypes391 := ⟨fun x h => (by cases h; exact (show zeroB Tryz.t472 = true by kernel_rfl)), trivial, trivial⟩
theorem aT392 : T.AllI (fun n i => Tryz.prog.info? n = some i) 128 216 tTypes392 := ⟨fun x h => (by cases h; exact info_of Tryz.type216), aT390, aT391⟩
theorem aZ392 : T.AllI (fun _ i => zeroB i = true) 128 216 tTypes392 := ⟨fun x h => (by cases h; exact (show zeroB Tryz.t216 = true by kernel_rfl)), aZ390, aZ391⟩
theorem aT393 : T.AllI (fun n i => Tryz.prog.info? n = some i) 64 88 tTypes393 := ⟨fun x h => (by cases h; exact info_of Tryz.type88), aT388, aT392⟩
theorem aZ393 : T.AllI (fun _ i => zeroB i = true) 64 88 tTypes393 := ⟨fun x h => (by cases h; exact (show zeroB Tryz.t88 = true by kernel_rfl)), aZ388, aZ392⟩
theorem aT394 : T.AllI (fun n i => Tryz.prog.info? n = some i) 512 568 tTypes394 := ⟨fun x h => (by cases h; exact info_of Tryz.type568), trivial, trivial⟩
theorem aZ394 : T.AllI (fun _ i => zeroB i = true) 512 568 tTypes394 := ⟨fun x h => (by cases h; exact (show zeroB Tryz.t568 = true by kernel_rfl)), trivial, trivial⟩
theorem aT395 : T.AllI (fun n i => Tryz.prog.info? n = some i) 256 312 tTypes395 := ⟨fun x h => (by cases h; exact info_of Tryz.type312), aT394, trivial⟩
theorem aZ395 : T.AllI (fun _ i => zeroB i = true) 256 312 tTypes395 := ⟨fun x h => (by cases h; exact (show zeroB Tryz.t312 = true by kernel_rfl)), aZ394, trivial⟩
theorem aT396 : T.AllI (fun n i => Tryz.prog.info? n = some i) 256 440 tTypes396 := ⟨fun x h => (by cases h; exact info_of Tryz.type440), trivial, trivial⟩
theorem aZ396 : T.AllI (fun _ i => zeroB i = true) 256 440 tTypes396 := ⟨fun x h => (by cases h; exact (show zeroB Tryz.t440 = true by kernel_rfl)), trivial, trivial⟩
theorem aT397 : T.AllI (fun n i => Tryz.prog.info? n = some i) 128 184 tTypes397 := ⟨fun x h => (by cases h; exact info_of Tryz.type184), aT395, aT396⟩
theorem aZ397 : T.AllI (fun _ i => zeroB i = true) 128 184 tTypes397 := ⟨fun x h => (by cases h; exact (show zeroB Tryz.t184 = true by kernel_rfl)), aZ395, aZ396⟩
theorem aT398 : T.AllI (fun n i => Tryz.prog.info? n = some i) 512 632 tTypes398 := ⟨fun x h => (by cases h; exact info_of Tryz.type632), trivial, trivial⟩
theorem aZ398 : T.AllI (fun _ i => zeroB i = true) 512 632 tTypes398 := ⟨fun x h => (by cases h; exact (show zeroB Tryz.t632 = true by kernel_rfl)), trivial, trivial⟩
theorem aT399 : T.AllI (fun n i => Tryz.prog.info? n = some i) 256 376 tTypes399 := ⟨fun x h => (by cases h; exact info_of Tryz.type376), aT398, trivial⟩
theorem aZ399 : T.AllI (fun _ i => zeroB i = true) 256 376 tTypes399 := ⟨fun x h => (by cases h; exact (show zeroB Tryz.t376 = true by kernel_rfl)), aZ398, trivial⟩
theorem aT400 : T.AllI (fun n i => Tryz.prog.info? n = some i) 256 504 tTypes400 := ⟨fun x h => (by cases h; exact info_of Tryz.type504), trivial, trivial⟩
theorem aZ400 : T.AllI (fun _ i => zeroB i = true) 256 504 tTypes400 := ⟨fun x h => (by cases h; exact (show zeroB Tryz.t504 = true by kernel_rfl)), trivial, trivial⟩
theorem aT401 : T.AllI (fun n i => Tryz.prog.info? n = some i) 128 248 tTypes401 := ⟨fun x h => (by cases h; exact info_of Tryz.type248), aT399, aT400⟩
theorem aZ401 : T.AllI (fun _ i => zeroB i = true) 128 248 tTypes401 := ⟨fun x h => (by cases h; exact (show zeroB Tryz.t248 = true by kernel_rfl)), aZ399, aZ400⟩
theorem aT402 : T.AllI (fun n i => Tryz.prog.info? n = some i) 64 120 tTypes402 := ⟨fun x h => (by cases h; exact info_of Tryz.type120), aT397, aT401⟩
theorem aZ402 : T.AllI (fun _ i => zeroB i = true) 64 120 tTypes402 := ⟨fun x h => (by cases h; exact (show zeroB Tryz.t120 = true by kernel_rfl)), aZ397, aZ401⟩
theorem aT403 : T.AllI (fun n i => Tryz.prog.info? n = some i) 32 56 tTypes403 := ⟨fun x h => (by cases h; exact info_of Tryz.type56), aT393, aT402⟩
theorem aZ403 : T.AllI (fun _ i => zeroB i = true) 32 56 tTypes403 := ⟨fun x h => (by cases h; exact (show zeroB Tryz.t56 = true by kernel_rfl)), aZ393, aZ402⟩
theorem aT404 : T.AllI (fun n i => Tryz.prog.info? n = some i) 16 24 tTypes404 := ⟨fun x h => (by cases h; exact info_of Tryz.type24), aT384, aT403⟩
theorem aZ404 : T.AllI (fun _ i => zeroB i = true) 16 24 tTypes404 := ⟨fun x h => (by cases h; exact (show zeroB Tryz.t24 = true by kernel_rfl)), aZ384, aZ403⟩
theorem aT405 : T.AllI (fun n i => Tryz.prog.info? n = some i) 8 8 tTypes405 := ⟨fun x h => (by cases h; exact info_of Tryz.type8), aT364, aT404⟩
theorem aZ405 : T.AllI (fun _ i => zeroB i = true) 8 8 tTypes405 := ⟨fun x h => (by cases h; exact (show zeroB Tryz.t8 = true by kernel_rfl)), aZ364, aZ404⟩
theorem aT406 : T.AllI (fun n i => Tryz.prog.info? n = some i) 512 516 tTypes406 := ⟨fun x h => (by cases h; exact info_of Tryz.type516), trivial, trivial⟩
theorem aZ406 : T.AllI (fun _ i => zeroB i = true) 512 516 tTypes406 := ⟨fun x h => (by cases h; exact (show zeroB Tryz.t516 = true by kernel_rfl)), trivial, trivial⟩
theorem aT407 : T.AllI (fun n i => Tryz.prog.info? n = some i) 256 260 tTypes407 := ⟨fun x h => (by cases h; exact info_of Tryz.type260), aT406, trivial⟩
theorem aZ407 : T.AllI (fun _ i => zeroB i = true) 256 260 tTypes407 := ⟨fun x h => (by cases h; exact (show zeroB Tryz.t260 = true by kernel_rfl)), aZ406, trivial⟩
theorem aT408 : T.AllI (fun n i => Tryz.prog.info? n = some i) 512 644 tTypes408 := ⟨fun x h => (by cases h; exact info_of Tryz.type644), trivial, trivial⟩
theorem aZ408 : T.AllI (fun _ i => zeroB i = true) 512 644 tTypes408 := ⟨fun x h => (by cases h; exact (show zeroB Tryz.t644 = true by kernel_rfl)), trivial, trivial⟩
theorem aT409 : T.AllI (fun n i => Tryz.prog.info? n = some i) 256 388 tTypes409 := ⟨fun x h => (by cases h; exact info_of Tryz.type388), aT408, trivial⟩
theorem aZ409 : T.AllI (fun _ i => zeroB i = true) 256 388 tTypes409 := ⟨fun x h => (by cases h; exact (show zeroB Tryz.t388 = true by kernel_rfl)), aZ408, trivial⟩
theorem aT410 : T.AllI (fun n i => Tryz.prog.info? n = some i) 128 132 tTypes410 := ⟨fun x h => (by cases h; exact info_of Tryz.type132), aT407, aT409⟩
theorem aZ410 : T.AllI (fun _ i => zeroB i = true) 128 132 tTypes410 := ⟨fun x h => (by cases h; exact (show zeroB Tryz.t132 = true by kernel_rfl)), aZ407, aZ409⟩
theorem aT411 : T.AllI (fun n i => Tryz.prog.info? n = some i) 512 580 tTypes411 := ⟨fun x h => (by cases h; exact info_of Tryz.type580), trivial, trivial⟩
theorem aZ411 : T.AllI (fun _ i => zeroB i = true) 512 580 tTypes411 := ⟨fun x h => (by cases h; exact (show zeroB Tryz.t580 = true by kernel_rfl)), trivial, trivial⟩
theorem aT412 : T.AllI (fun n i => Tryz.prog.info? n = some i) 256 324 tTypes412 := ⟨fun x h => (by cases h; exact info_of Tryz.type324), aT411, trivial⟩
theorem aZ412 : T.AllI (fun _ i => zeroB i = true) 256 324 tTypes412 := ⟨fun x h => (by cases h; exact (show zeroB Tryz.t324 = true by kernel_rfl)), aZ411, trivial⟩
theorem aT413 : T.AllI (fun n i => Tryz.prog.info? n = some i) 256 452 tTypes413 := ⟨fun x h => (by cases h; exact info_of Tryz.type452), trivial, trivial⟩
theorem aZ413 : T.AllI (fun _ i => zeroB i = true) 256 452 tTypes413 := ⟨fun x h => (by cases h; exact (show zeroB Tryz.t452 = true by kernel_rfl)), trivial, trivial⟩
theorem aT414 : T.AllI (fun n i => Tryz.prog.info? n = some i) 128 196 tTypes414 := ⟨fun x h => (by cases h; exact info_of Tryz.type196), aT412, aT413⟩
theorem aZ414 : T.AllI (fun _ i => zeroB i = true) 128 196 tTypes414 := ⟨fun x h => (by cases h; exact (show zeroB Tryz.t196 = true by kernel_rfl)), aZ412, aZ413⟩
theorem aT415 : T.AllI (fun n i => Tryz.prog.info? n = some i) 64 68 tTypes415 := ⟨fun x h => (by cases h; exact info_of Tryz.type68), aT410, aT414⟩
theorem aZ415 : T.AllI (fun _ i => zeroB i = true) 64 68 tTypes415 := ⟨fun x h => (by cases h; exact (show zeroB Tryz.t68 = true by kernel_rfl)), aZ410, aZ414⟩
theorem aT416 : T.AllI (fun n i => Tryz.prog.info? n = some i) 512 548 tTypes416 := ⟨fun x h => (by cases h; exact info_of Tryz.type548), trivial, trivial⟩
theorem aZ416 : T.AllI (fun _ i => zeroB i = true) 512 548 tTypes416 := ⟨fun x h => (by cases h; exact (show zeroB Tryz.t548 = true by kernel_rfl)), trivial, trivial⟩
theorem aT417 : T.AllI (fun n i => Tryz.prog.info? n = some i) 256 292 tTypes417 := ⟨fun x h => (by cases h; exact info_of Tryz.type292), aT416, trivial⟩
theorem aZ417 : T.AllI (fun _ i => zeroB i = true) 256 292 tTypes417 := ⟨fun x h => (by cases h; exact (show zeroB Tryz.t292 = true by kernel_rfl)), aZ416, trivial⟩
theorem aT418 : T.AllI (fun n i => Tryz.prog.info? n = some i) 256 420 tTypes418 := ⟨fun x h => (by cases h; exact info_of Tryz.type420), trivial, trivial⟩
theorem aZ418 : T.AllI (fun _ i => zeroB i = true) 256 420 tTypes418 := ⟨fun x h => (by cases h; exact (show zeroB Tryz.t420 = true by kernel_rfl)), trivial, trivial⟩
theorem aT419 : T.AllI (fun n i => Tryz.prog.info? n = some i) 128 164 tTypes419 := ⟨fun x h => (by cases h; exact info_of Tryz.type164), aT417, aT418⟩
theorem aZ419 : T.AllI (fun _ i => zeroB i = true) 128 164 tTypes419 := ⟨fun x h => (by cases h; exact (show zeroB Tryz.t164 = true by kernel_rfl)), aZ417, aZ418⟩
theorem aT420 : T.AllI (fun n i => Tryz.prog.info? n = some i) 512 612 tTypes420 := ⟨fun x h => (by cases h; exact info_of Tryz.type612), trivial, trivial⟩
theorem aZ420 : T.AllI (fun _ i => zeroB i = true) 512 612 tTypes420 := ⟨fun x h => (by cases h; exact (show zeroB Tryz.t612 = true by kernel_rfl)), trivial, trivial⟩
theorem aT421 : T.AllI (fun n i => Tryz.prog.info? n = some i) 256 356 tTypes421 := ⟨fun x h => (by cases h; exact info_of Tryz.type356), aT420, trivial⟩
theorem aZ421 : T.AllI (fun _ i => zeroB i = true) 256 356 tTypes421 := ⟨fun x h => (by cases h; exact (show zeroB Tryz.t356 = true by kernel_rfl)), aZ420, trivial⟩
theorem aT422 : T.AllI (fun n i => Tryz.prog.info? n = some i) 256 484 tTypes422 := ⟨fun x h => (by cases h; exact info_of Tryz.type484), trivial, trivial⟩
theorem aZ422 : T.AllI (fun _ i => zeroB i = true) 256 484 tTypes422 := ⟨fun x h => (by cases h; exact (show zeroB Tryz.t484 = true by kernel_rfl)), trivial, trivial⟩
theorem aT423 : T.AllI (fun n i => Tryz.prog.info? n = some i) 128 228 tTypes423 := ⟨fun x h => (by cases h; exact info_of Tryz.type228), aT421, aT422⟩
theorem aZ423 : T.AllI (fun _ i => zeroB i = true) 128 228 tTypes423 := ⟨fun x h => (by cases h; exact (show zeroB Tryz.t228 = true by kernel_rfl)), aZ421, aZ422⟩
theorem aT424 : T.AllI (fun n i => Tryz.prog.info? n = some i) 64 100 tTypes424 := ⟨fun x h => (by cases h; exact info_of Tryz.type100), aT419, aT423⟩
theorem aZ424 : T.AllI (fun _ i => zeroB i = true) 64 100 tTypes424 := ⟨fun x h => (by cases h; exact (show zeroB Tryz.t100 = true by kernel_rfl)), aZ419, aZ423⟩
theorem aT425 : T.AllI (fun n i => Tryz.prog.info? n = some i) 32 36 tTypes425 := ⟨fun x h => (by cases h; exact info_of Tryz.type36), aT415, aT424⟩
theorem aZ425 : T.AllI (fun _ i => zeroB i = true) 32 36 tTypes425 := ⟨fun x h => (by cases h; exact (show zeroB Tryz.t36 = true by kernel_rfl)), aZ415, aZ424⟩
theorem aT426 : T.AllI (fun n i => Tryz.prog.info? n = some i) 512 532 tTypes426 := ⟨fun x h => (by cases h; exact info_of Tryz.type532), trivial, trivial⟩
theorem aZ426 : T.AllI (fun _ i => zeroB i = true) 512 532 tTypes426 := ⟨fun x h => (by cases h; exact (show zeroB Tryz.t532 = true by kernel_rfl)), trivial, trivial⟩
theorem aT427 : T.AllI (fun n i => Tryz.prog.info? n = some i) 256 276 tTypes427 := ⟨fun x h => (by cases h; exact info_of Tryz.type276), aT426, trivial⟩
theorem aZ427 : T.AllI (fun _ i => zeroB i = true) 256 276 tTypes427 := ⟨fun x h => (by cases h; exact (show zeroB Tryz.t276 = true by kernel_rfl)), aZ426, trivial⟩
theorem aT428 : T.AllI (fun n i => Tryz.prog.info? n = some i) 256 404 tTypes428 := ⟨fun x h => (by cases h; exact info_of Tryz.type404), trivial, trivial⟩
theorem aZ428 : T.AllI (fun _ i => zeroB i = true) 256 404 tTypes428 := ⟨fun x h => (by cases h; exact (show zeroB Tryz.t404 = true by kernel_rfl)), trivial, trivial⟩
theorem aT429 : T.AllI (fun n i => Tryz.prog.info? n = some i) 128 148 tTypes429 := ⟨fun x h => (by cases h; exact info_of Tryz.type148), aT427, aT428⟩
theorem aZ429 : T.AllI (fun _ i => zeroB i = true) 128 148 tTypes429 := ⟨fun x h => (by cases h; exact (show zeroB Tryz.t148 = true by kernel_rfl)), aZ427, aZ428⟩
theorem aT430 : T.AllI (fun n i => Tryz.prog.info? n = some i) 512 596 tTypes430 := ⟨fun x h => (by cases h; exact info_of Tryz.type596), trivial, trivial⟩
theorem aZ430 : T.AllI (fun _ i => zeroB i = true) 512 596 tTypes430 := ⟨fun x h => (by cases h; exact (show zeroB Tryz.t596 = true by kernel_rfl)), trivial, trivial⟩
theorem aT431 : T.AllI (fun n i => Tryz.prog.info? n = some i) 256 340 tTypes431 := ⟨fun x h => (by cases h; exact info_of Tryz.type340), aT430, trivial⟩
theorem aZ431 : T.AllI (fun _ i => zeroB i = true) 256 340 tTypes431 := ⟨fun x h => (by cases h; exact (show zeroB Tryz.t340 = true by kernel_rfl)), aZ430, trivial⟩
theorem aT432 : T.AllI (fun n i => Tryz.prog.info? n = some i) 256 468 tTypes432 := ⟨fun x h => (by cases h; exact info_of Tryz.type468), trivial, trivial⟩
theorem aZ432 : T.AllI (fun _ i => zeroB i = true) 256 468 tTypes432 := ⟨fun x h => (by cases h; exact (show zeroB Tryz.t468 = true by kernel_rfl)), trivial, trivial⟩
theorem aT433 : T.AllI (fun n i => Tryz.prog.info? n = some i) 128 212 tTypes433 := ⟨fun x h => (by cases h; exact info_of Tryz.type212), aT431, aT432⟩
theorem aZ433 : T.AllI (fun _ i => zeroB i = true) 128 212 tTypes433 := ⟨fun x h => (by cases h; exact (show zeroB Tryz.t212 = true by kernel_rfl)), aZ431, aZ432⟩
theorem aT434 : T.AllI (fun n i => Tryz.prog.info? n = some i) 64 84 tTypes434 := ⟨fun x h => (by cases h; exact info_of Tryz.type84), aT429, aT433⟩
theorem aZ434 : T.AllI (fun _ i => zeroB i = true) 64 84 tTypes434 := ⟨fun x h => (by cases h; exact (show zeroB Tryz.t84 = true by kernel_rfl)), aZ429, aZ433⟩
theorem aT435 : T.AllI (fun n i => Tryz.prog.info? n = some i) 512 564 tTypes435 := ⟨fun x h => (by cases h; exact info_of Tryz.type564), trivial, trivial⟩
theorem aZ435 : T.AllI (fun _ i => zeroB i = true) 512 564 tTypes435 := ⟨fun x h => (by cases h; exact (show zeroB Tryz.t564 = true by kernel_rfl)), trivial, trivial⟩
theorem aT436 : T.AllI (fun n i => Tryz.prog.info? n = some i) 256 308 tTypes436 := ⟨fun x h => (by cases h; exact info_of Tryz.type308), aT435, trivial⟩
theorem aZ436 : T.AllI (fun _ i => zeroB i = true) 256 308 tTypes436 := ⟨fun x h => (by cases h; exact (show zeroB Tryz.t308 = true by kernel_rfl)), aZ435, trivial⟩
theorem aT437 : T.AllI (fun n i => Tryz.prog.info? n = some i) 256 436 tTypes437 := ⟨fun x h => (by cases h; exact info_of Tryz.type436), trivial, trivial⟩
theorem aZ437 : T.AllI (fun _ i => zeroB i = true) 256 436 tTypes437 := ⟨fun x h => (by cases h; exact (show zeroB Tryz.t436 = true by kernel_rfl)), trivial, trivial⟩
theorem aT438 : T.AllI (fun n i => Tryz.prog.info? n = some i) 128 180 tTypes438 := ⟨fun x h => (by cases h; exact info_of Tryz.type180), aT436, aT437⟩
theorem aZ438 : T.AllI (fun _ i => zeroB i = true) 128 180 tTypes438 := ⟨fun x h => (by cases h; exact (show zeroB Tryz.t180 = true by kernel_rfl)), aZ436, aZ437⟩
theorem aT439 : T.AllI (fun n i => Tryz.prog.info? n = some i) 512 628 tTypes439 := ⟨fun x h => (by cases h; exact info_of Tryz.type628), trivial, trivial⟩
theorem aZ439 : T.AllI (fun _ i => zeroB i = true) 512 628 tTypes439 := ⟨fun x h => (by cases h; exact (show zeroB Tryz.t628 = true by kernel_rfl)), trivial, trivial⟩
theorem aT440 : T.AllI (fun n i => Tryz.prog.info? n = some i) 256 372 tTypes440 := ⟨fun x h => (by cases h; exact info_of Tryz.type372), aT439, trivial⟩
theorem aZ440 : T.AllI (fun _ i => zeroB i = true) 256 372 tTypes440 := ⟨fun x h => (by cases h; exact (show zeroB Tryz.t372 = true by kernel_rfl)), aZ439, trivial⟩
theorem aT441 : T.AllI (fun n i => Tryz.prog.info? n = some i) 256 500 tTypes441 := ⟨fun x h => (by cases h; exact info_of Tryz.type500), trivial, trivial⟩
theorem aZ441 : T.AllI (fun _ i => zeroB i = true) 256 500 tTypes441 := ⟨fun x h => (by cases h; exact (show zeroB Tryz.t500 = true by kernel_rfl)), trivial, trivial⟩
theorem aT442 : T.AllI (fun n i => Tryz.prog.info? n = some i) 128 244 tTypes442 := ⟨fun x h => (by cases h; exact info_of Tryz.type244), aT440, aT441⟩
theorem aZ442 : T.AllI (fun _ i => zeroB i = true) 128 244 tTypes442 := ⟨fun x h => (by cases h; exact (show zeroB Tryz.t244 = true by kernel_rfl)), aZ440, aZ441⟩
theorem aT443 : T.AllI (fun n i => Tryz.prog.info? n = some i) 64 116 tTypes443 := ⟨fun x h => (by cases h; exact info_of Tryz.type116), aT438, aT442⟩
theorem aZ443 : T.AllI (fun _ i => zeroB i = true) 64 116 tTypes443 := ⟨fun x h => (by cases h; exact (show zeroB Tryz.t116 = true by kernel_rfl)), aZ438, aZ442⟩
theorem aT444 : T.AllI (fun n i => Tryz.prog.info? n = some i) 32 52 tTypes444 := ⟨fun x h => (by cases h; exact info_of Tryz.type52), aT434, aT443⟩
theorem aZ444 : T.AllI (fun _ i => zeroB i = true) 32 52 tTypes444 := ⟨fun x h => (by cases h; exact (show zeroB Tryz.t52 = true by kernel_rfl)), aZ434, aZ443⟩
theorem aT445 : T.AllI (fun n i => Tryz.prog.info? n = some i) 16 20 tTypes445 := ⟨fun x h => (by cases h; exact info_of Tryz.type20), aT425, aT444⟩
theorem aZ445 : T.AllI (fun _ i => zeroB i = true) 16 20 tTypes445 := ⟨fun x h => (by cases h; exact (show zeroB Tryz.t20 = true by kernel_rfl)), aZ425, aZ444⟩
theorem aT446 : T.AllI (fun n i => Tryz.prog.info? n = some i) 512 524 tTypes446 := ⟨fun x h => (by cases h; exact info_of Tryz.type524), trivial, trivial⟩
theorem aZ446 : T.AllI (fun _ i => zeroB i = true) 512 524 tTypes446 := ⟨fun x h => (by cases h; exact (show zeroB Tryz.t524 = true by kernel_rfl)), trivial, trivial⟩
theorem aT447 : T.AllI (fun n i => Tryz.prog.info? n = some i) 256 268 tTypes447 := ⟨fun x h => (by cases h; exact info_of Tryz.type268), aT446, trivial⟩
theorem aZ447 : T.AllI (fun _ i => zeroB i = true) 256 268 tTypes447 := ⟨fun x h => (by cases h; exact (show zeroB Tryz.t268 = true by kernel_rfl)), aZ446, trivial⟩
theorem aT448 : T.AllI (fun n i => Tryz.prog.info? n = some i) 256 396 tTypes448 := ⟨fun x h => (by cases h; exact info_of Tryz.type396), trivial, trivial⟩
theorem aZ448 : T.AllI (fun _ i => zeroB i = true) 256 396 tTypes448 := ⟨fun x h => (by cases h; exact (show zeroB Tryz.t396 = true by kernel_rfl)), trivial, trivial⟩
theorem aT449 : T.AllI (fun n i => Tryz.prog.info? n = some i) 128 140 tTypes449 := ⟨fun x h => (by cases h; exact info_of Tryz.type140), aT447, aT448⟩
theorem aZ449 : T.AllI (fun _ i => zeroB i = true) 128 140 tTypes449 := ⟨fun x h => (by cases h; exact (show zeroB Tryz.t140 = true by kernel_rfl)), aZ447, aZ448⟩
theorem aT450 : T.AllI (fun n i => Tryz.prog.info? n = some i) 512 588 tTypes450 := ⟨fun x h => (by cases h; exact info_of Tryz.type588), trivial, trivial⟩
theorem aZ450 : T.AllI (fun _ i => zeroB i = true) 512 588 tTypes450 := ⟨fun x h => (by cases h; exact (show zeroB Tryz.t588 = true by kernel_rfl)), trivial, trivial⟩
theorem aT451 : T.AllI (fun n i => Tryz.prog.info? n = some i) 256 332 tTypes451 := ⟨fun x h => (by cases h; exact info_of Tryz.type332), aT450, trivial⟩
theorem aZ451 : T.AllI (fun _ i => zeroB i = true) 256 332 tTypes451 := ⟨fun x h => (by cases h; exact (show zeroB Tryz.t332 = true by kernel_rfl)), aZ450, trivial⟩
theorem aT452 : T.AllI (fun n i => Tryz.prog.info? n = some i) 256 460 tTypes452 := ⟨fun x h => (by cases h; exact info_of Tryz.type460), trivial, trivial⟩
theorem aZ452 : T.AllI (fun _ i => zeroB i = true) 256 460 tTypes452 := ⟨fun x h => (by cases h; exact (show zeroB Tryz.t460 = true by kernel_rfl)), trivial, trivial⟩
theorem aT453 : T.AllI (fun n i => Tryz.prog.info? n = some i) 128 204 tTypes453 := ⟨fun x h => (by cases h; exact info_of Tryz.type204), aT451, aT452⟩
theorem aZ453 : T.AllI (fun _ i => zeroB i = true) 128 204 tTypes453 := ⟨fun x h => (by cases h; exact (show zeroB Tryz.t204 = true by kernel_rfl)), aZ451, aZ452⟩
theorem aT454 : T.AllI (fun n i => Tryz.prog.info? n = some i) 64 76 tTypes454 := ⟨fun x h => (by cases h; exact info_of Tryz.type76), aT449, aT453⟩
theorem aZ454 : T.AllI (fun _ i => zeroB i = true) 64 76 tTypes454 := ⟨fun x h => (by cases h; exact (show zeroB Tryz.t76 = true by kernel_rfl)), aZ449, aZ453⟩
theorem aT455 : T.AllI (fun n i => Tryz.prog.info? n = some i) 512 556 tTypes455 := ⟨fun x h => (by cases h; exact info_of Tryz.type556), trivial, trivial⟩
theorem aZ455 : T.AllI (fun _ i => zeroB i = true) 512 556 tTypes455 := ⟨fun x h => (by cases h; exact (show zeroB Tryz.t556 = true by kernel_rfl)), trivial, trivial⟩
theorem aT456 : T.AllI (fun n i => Tryz.prog.info? n = some i) 256 300 tTypes456 := ⟨fun x h => (by cases h; exact info_of Tryz.type300), aT455, trivial⟩
theorem aZ456 : T.AllI (fun _ i => zeroB i = true) 256 300 tTypes456 := ⟨fun x h => (by cases h; exact (show zeroB Tryz.t300 = true by kernel_rfl)), aZ455, trivial⟩
theorem aT457 : T.AllI (fun n i => Tryz.prog.info? n = some i) 256 428 tTypes457 := ⟨fun x h => (by cases h; exact info_of Tryz.type428), trivial, trivial⟩
theorem aZ457 : T.AllI (fun _ i => zeroB i = true) 256 428 tTypes457 := ⟨fun x h => (by cases h; exact (show zeroB Tryz.t428 = true by kernel_rfl)), trivial, trivial⟩
theorem aT458 : T.AllI (fun n i => Tryz.prog.info? n = some i) 128 172 tTypes458 := ⟨fun x h => (by cases h; exact info_of Tryz.type172), aT456, aT457⟩
theorem aZ458 : T.AllI (fun _ i => zeroB i = true) 128 172 tTypes458 := ⟨fun x h => (by cases h; exact (show zeroB Tryz.t172 = true by kernel_rfl)), aZ456, aZ457⟩
theorem aT459 : T.AllI (fun n i => Tryz.prog.info? n = some i) 512 620 tTypes459 := ⟨fun x h => (by cases h; exact info_of Tryz.type620), trivial, trivial⟩
theorem aZ459 : T.AllI (fun _ i => zeroB i = true) 512 620 tTypes459 := ⟨fun x h => (by cases h; exact (show zeroB Tryz.t620 = true by kernel_rfl)), trivial, trivial⟩
theorem aT460 : T.AllI (fun n i => Tryz.prog.info? n = some i) 256 364 tTypes460 := ⟨fun x h => (by cases h; exact info_of Tryz.type364), aT459, trivial⟩
theorem aZ460 : T.AllI (fun _ i => zeroB i = true) 256 364 tTypes460 := ⟨fun x h => (by cases h; exact (show zeroB Tryz.t364 = true by kernel_rfl)), aZ459, trivial⟩
theorem aT461 : T.AllI (fun n i => Tryz.prog.info? n = some i) 256 492 tTypes461 := ⟨fun x h => (by cases h; exact info_of Tryz.type492), trivial, trivial⟩
theorem aZ461 : T.AllI (fun _ i => zeroB i = true) 256 492 tTypes461 := ⟨fun x h => (by cases h; exact (show zeroB Tryz.t492 = true by kernel_rfl)), trivial, trivial⟩
theorem aT462 : T.AllI (fun n i => Tryz.prog.info? n = some i) 128 236 tTypes462 := ⟨fun x h => (by cases h; exact info_of Tryz.type236), aT460, aT461⟩
theorem aZ462 : T.AllI (fun _ i => zeroB i = true) 128 236 tTypes462 := ⟨fun x h => (by cases h; exact (show zeroB Tryz.t236 = true by kernel_rfl)), aZ460, aZ461⟩
theorem aT463 : T.AllI (fun n i => Tryz.prog.info? n = some i) 64 108 tTypes463 := ⟨fun x h => (by cases h; exact info_of Tryz.type108), aT458, aT462⟩
theorem aZ463 : T.AllI (fun _ i => zeroB i = true) 64 108 tTypes463 := ⟨fun x h => (by cases h; exact (show zeroB Tryz.t108 = true by kernel_rfl)), aZ458, aZ462⟩
theorem aT464 : T.AllI (fun n i => Tryz.prog.info? n = some i) 32 44 tTypes464 := ⟨fun x h => (by cases h; exact info_of Tryz.type44), aT454, aT463⟩
theorem aZ464 : T.AllI (fun _ i => zeroB i = true) 32 44 tTypes464 := ⟨fun x h => (by cases h; exact (show zeroB Tryz.t44 = true by kernel_rfl)), aZ454, aZ463⟩
theorem aT465 : T.AllI (fun n i => Tryz.prog.info? n = some i) 512 540 tTypes465 := ⟨fun x h => (by cases h; exact info_of Tryz.type540), trivial, trivial⟩
theorem aZ465 : T.AllI (fun _ i => zeroB i = true) 512 540 tTypes465 := ⟨fun x h => (by cases h; exact (show zeroB Tryz.t540 = true by kernel_rfl)), trivial, trivial⟩
theorem aT466 : T.AllI (fun n i => Tryz.prog.info? n = some i) 256 284 tTypes466 := ⟨fun x h => (by cases h; exact info_of Tryz.type284), aT465, trivial⟩
theorem aZ466 : T.AllI (fun _ i => zeroB i = true) 256 284 tTypes466 := ⟨fun x h => (by cases h; exact (show zeroB Tryz.t284 = true by kernel_rfl)), aZ465, trivial⟩
theorem aT467 : T.AllI (fun n i => Tryz.prog.info? n = some i) 256 412 tTypes467 := ⟨fun x h => (by cases h; exact info_of Tryz.type412), trivial, trivial⟩
theorem aZ467 : T.AllI (fun _ i => zeroB i = true) 256 412 tTypes467 := ⟨fun x h => (by cases h; exact (show zeroB Tryz.t412 = true by kernel_rfl)), trivial, trivial⟩
theorem aT468 : T.AllI (fun n i => Tryz.prog.info? n = some i) 128 156 tTypes468 := ⟨fun x h => (by cases h; exact info_of Tryz.type156), aT466, aT467⟩
theorem aZ468 : T.AllI (fun _ i => zeroB i = true) 128 156 tTypes468 := ⟨fun x h => (by cases h; exact (show zeroB Tryz.t156 = true by kernel_rfl)), aZ466, aZ467⟩
theorem aT469 : T.AllI (fun n i => Tryz.prog.info? n = some i) 512 604 tTypes469 := ⟨fun x h => (by cases h; exact info_of Tryz.type604), trivial, trivial⟩
theorem aZ469 : T.AllI (fun _ i => zeroB i = true) 512 604 tTypes469 := ⟨fun x h => (by cases h; exact (show zeroB Tryz.t604 = true by kernel_rfl)), trivial, trivial⟩
theorem aT470 : T.AllI (fun n i => Tryz.prog.info? n = some i) 256 348 tTypes470 := ⟨fun x h => (by cases h; exact info_of Tryz.type348), aT469, trivial⟩
theorem aZ470 : T.AllI (fun _ i => zeroB i = true) 256 348 tTypes470 := ⟨fun x h => (by cases h; exact (show zeroB Tryz.t348 = true by kernel_rfl)), aZ469, trivial⟩
theorem aT471 : T.AllI (fun n i => Tryz.prog.info? n = some i) 256 476 tTypes471 := ⟨fun x h => (by cases h; exact info_of Tryz.type476), trivial, trivial⟩
theorem aZ471 : T.AllI (fun _ i => zeroB i = true) 256 476 tTypes471 := ⟨fun x h => (by cases h; exact (show zeroB Tryz.t476 = true by kernel_rfl)), trivial, trivial⟩
theorem aT472 : T.AllI (fun n i => Tryz.prog.info? n = some i) 128 220 tTypes472 := ⟨fun x h => (by cases h; exact info_of Tryz.type220), aT470, aT471⟩
theorem aZ472 : T.AllI (fun _ i => zeroB i = true) 128 220 tTypes472 := ⟨fun x h => (by cases h; exact (show zeroB Tryz.t220 = true by kernel_rfl)), aZ470, aZ471⟩
theorem aT473 : T.AllI (fun n i => Tryz.prog.info? n = some i) 64 92 tTypes473 := ⟨fun x h => (by cases h; exact info_of Tryz.type92), aT468, aT472⟩
theorem aZ473 : T.AllI (fun _ i => zeroB i = true) 64 92 tTypes473 := ⟨fun x h => (by cases h; exact (show zeroB Tryz.t92 = true by kernel_rfl)), aZ468, aZ472⟩
theorem aT474 : T.AllI (fun n i => Tryz.prog.info? n = some i) 512 572 tTypes474 := ⟨fun x h => (by cases h; exact info_of Tryz.type572), trivial, trivial⟩
theorem aZ474 : T.AllI (fun _ i => zeroB i = true) 512 572 tTypes474 := ⟨fun x h => (by cases h; exact (show zeroB Tryz.t572 = true by kernel_rfl)), trivial, trivial⟩
theorem aT475 : T.AllI (fun n i => Tryz.prog.info? n = some i) 256 316 tTypes475 := ⟨fun x h => (by cases h; exact info_of Tryz.type316), aT474, trivial⟩
theorem aZ475 : T.AllI (fun _ i => zeroB i = true) 256 316 tTypes475 := ⟨fun x h => (by cases h; exact (show zeroB Tryz.t316 = true by kernel_rfl)), aZ474, trivial⟩
theorem aT476 : T.AllI (fun n i => Tryz.prog.info? n = some i) 256 444 tTypes476 := ⟨fun x h => (by cases h; exact info_of Tryz.type444), trivial, trivial⟩
theorem aZ476 : T.AllI (fun _ i => zeroB i = true) 256 444 tTypes476 := ⟨fun x h => (by cases h; exact (show zeroB Tryz.t444 = true by kernel_rfl)), trivial, trivial⟩
theorem aT477 : T.AllI (fun n i => Tryz.prog.info? n = some i) 128 188 tTypes477 := ⟨fun x h => (by cases h; exact info_of Tryz.type188), aT475, aT476⟩
theorem aZ477 : T.AllI (fun _ i => zeroB i = true) 128 188 tTypes477 := ⟨fun x h => (by cases h; exact (show zeroB Tryz.t188 = true by kernel_rfl)), aZ475, aZ476⟩
theorem aT478 : T.AllI (fun n i => Tryz.prog.info? n = some i) 512 636 tTypes478 := ⟨fun x h => (by cases h; exact info_of Tryz.type636), trivial, trivial⟩
theorem aZ478 : T.AllI (fun _ i => zeroB i = true) 512 636 tTypes478 := ⟨fun x h => (by cases h; exact (show zeroB Tryz.t636 = true by kernel_rfl)), trivial, trivial⟩
theorem aT479 : T.AllI (fun n i => Tryz.prog.info? n = some i) 256 380 tTypes479 := ⟨fun x h => (by cases h; exact info_of Tryz.type380), aT478, trivial⟩
theorem aZ479 : T.AllI (fun _ i => zeroB i = true) 256 380 tTypes479 := ⟨fun x h => (by cases h; exact (show zeroB Tryz.t380 = true by kernel_rfl)), aZ478, trivial⟩
theorem aT480 : T.AllI (fun n i => Tryz.prog.info? n = some i) 256 508 tTypes480 := ⟨fun x h => (by cases h; exact info_of Tryz.type508), trivial, trivial⟩
theorem aZ480 : T.AllI (fun _ i => zeroB i = true) 256 508 tTypes480 := ⟨fun x h => (by cases h; exact (show zeroB Tryz.t508 = true by kernel_rfl)), trivial, trivial⟩
theorem aT481 : T.AllI (fun n i => Tryz.prog.info? n = some i) 128 252 tTypes481 := ⟨fun x h => (by cases h; exact info_of Tryz.type252), aT479, aT480⟩
theorem aZ481 : T.AllI (fun _ i => zeroB i = true) 128 252 tTypes481 := ⟨fun x h => (by cases h; exact (show zeroB Tryz.t252 = true by kernel_rfl)), aZ479, aZ480⟩
theorem aT482 : T.AllI (fun n i => Tryz.prog.info? n = some i) 64 124 tTypes482 := ⟨fun x h => (by cases h; exact info_of Tryz.type124), aT477, aT481⟩
theorem aZ482 : T.AllI (fun _ i => zeroB i = true) 64 124 tTypes482 := ⟨fun x h => (by cases h; exact (show zeroB Tryz.t124 = true by kernel_rfl)), aZ477, aZ481⟩
theorem aT483 : T.AllI (fun n i => Tryz.prog.info? n = some i) 32 60 tTypes483 := ⟨fun x h => (by cases h; exact info_of Tryz.type60), aT473, aT482⟩
theorem aZ483 : T.AllI (fun _ i => zeroB i = true) 32 60 tTypes483 := ⟨fun x h => (by cases h; exact (show zeroB Tryz.t60 = true by kernel_rfl)), aZ473, aZ482⟩
theorem aT484 : T.AllI (fun n i => Tryz.prog.info? n = some i) 16 28 tTypes484 := ⟨fun x h => (by cases h; exact info_of Tryz.type28), aT464, aT483⟩
theorem aZ484 : T.AllI (fun _ i => zeroB i = true) 16 28 tTypes484 := ⟨fun x h => (by cases h; exact (show zeroB Tryz.t28 = true by kernel_rfl)), aZ464, aZ483⟩
theorem aT485 : T.AllI (fun n i => Tryz.prog.info? n = some i) 8 12 tTypes485 := ⟨fun x h => (by cases h; exact info_of Tryz.type12), aT445, aT484⟩
theorem aZ485 : T.AllI (fun _ i => zeroB i = true) 8 12 tTypes485 := ⟨fun x h => (by cases h; exact (show zeroB Tryz.t12 = true by kernel_rfl)), aZ445, aZ484⟩
theorem aT486 : T.AllI (fun n i => Tryz.prog.info? n = some i) 4 4 tTypes486 := ⟨fun x h => (by cases h; exact info_of Tryz.type4), aT405, aT485⟩
theorem aZ486 : T.AllI (fun _ i => zeroB i = true) 4 4 tTypes486 := ⟨fun x h => (by cases h; exact (show zeroB Tryz.t4 = true by kernel_rfl)), aZ405, aZ485⟩
theorem aT487 : T.AllI (fun n i => Tryz.prog.info? n = some i) 512 514 tTypes487 := ⟨fun x h => (by cases h; exact info_of Tryz.type514), trivial, trivial⟩
theorem aZ487 : T.AllI (fun _ i => zeroB i = true) 512 514 tTypes487 := ⟨fun x h => (by cases h; exact (show zeroB Tryz.t514 = true by kernel_rfl)), trivial, trivial⟩
theorem aT488 : T.AllI (fun n i => Tryz.prog.info? n = some i) 256 258 tTypes488 := ⟨fun x h => (by cases h; exact info_of Tryz.type258), aT487, trivial⟩
theorem aZ488 : T.AllI (fun _ i => zeroB i = true) 256 258 tTypes488 := ⟨fun x h => (by cases h; exact (show zeroB Tryz.t258 = true by kernel_rfl)), aZ487, trivial⟩
theorem aT489 : T.AllI (fun n i => Tryz.prog.info? n = some i) 512 642 tTypes489 := ⟨fun x h => (by cases h; exact info_of Tryz.type642), trivial, trivial⟩
theorem aZ489 : T.AllI (fun _ i => zeroB i = true) 512 642 tTypes489 := ⟨fun x h => (by cases h; exact (show zeroB Tryz.t642 = true by kernel_rfl)), trivial, trivial⟩
theorem aT490 : T.AllI (fun n i => Tryz.prog.info? n = some i) 256 386 tTypes490 := ⟨fun x h => (by cases h; exact info_of Tryz.type386), aT489, trivial⟩
theorem aZ490 : T.AllI (fun _ i => zeroB i = true) 256 386 tTypes490 := ⟨fun x h => (by cases h; exact (show zeroB Tryz.t386 = true by kernel_rfl)), aZ489, trivial⟩
theorem aT491 : T.AllI (fun n i => Tryz.prog.info? n = some i) 128 130 tTypes491 := ⟨fun x h => (by cases h; exact info_of Tryz.type130), aT488, aT490⟩
theorem aZ491 : T.AllI (fun _ i => zeroB i = true) 128 130 tTypes491 := ⟨fun x h => (by cases h; exact (show zeroB Tryz.t130 = true by kernel_rfl)), aZ488, aZ490⟩
theorem aT492 : T.AllI (fun n i => Tryz.prog.info? n = some i) 512 578 tTypes492 := ⟨fun x h => (by cases h; exact info_of Tryz.type578), trivial, trivial⟩
theorem aZ492 : T.AllI (fun _ i => zeroB i = true) 512 578 tTypes492 := ⟨fun x h => (by cases h; exact (show zeroB Tryz.t578 = true by kernel_rfl)), trivial, trivial⟩
theorem aT493 : T.AllI (fun n i => Tryz.prog.info? n = some i) 256 322 tTypes493 := ⟨fun x h => (by cases h; exact info_of Tryz.type322), aT492, trivial⟩
theorem aZ493 : T.AllI (fun _ i => zeroB i = true) 256 322 tTypes493 := ⟨fun x h => (by cases h; exact (show zeroB Tryz.t322 = true by kernel_rfl)), aZ492, trivial⟩
theorem aT494 : T.AllI (fun n i => Tryz.prog.info? n = some i) 256 450 tTypes494 := ⟨fun x h => (by cases h; exact info_of Tryz.type450), trivial, trivial⟩
theorem aZ494 : T.AllI (fun _ i => zeroB i = true) 256 450 tTypes494 := ⟨fun x h => (by cases h; exact (show zeroB Tryz.t450 = true by kernel_rfl)), trivial, trivial⟩
theorem aT495 : T.AllI (fun n i => Tryz.prog.info? n = some i) 128 194 tTypes495 := ⟨fun x h => (by cases h; exact info_of Tryz.type194), aT493, aT494⟩
theorem aZ495 : T.AllI (fun _ i => zeroB i = true) 128 194 tTypes495 := ⟨fun x h => (by cases h; exact (show zeroB Tryz.t194 = true by kernel_rfl)), aZ493, aZ494⟩
theorem aT496 : T.AllI (fun n i => Tryz.prog.info? n = some i) 64 66 tTypes496 := ⟨fun x h => (by cases h; exact info_of Tryz.type66), aT491, aT495⟩
theorem aZ496 : T.AllI (fun _ i => zeroB i = true) 64 66 tTypes496 := ⟨fun x h => (by cases h; exact (show zeroB Tryz.t66 = true by kernel_rfl)), aZ491, aZ495⟩
theorem aT497 : T.AllI (fun n i => Tryz.prog.info? n = some i) 512 546 tTypes497 := ⟨fun x h => (by cases h; exact info_of Tryz.type546), trivial, trivial⟩
theorem aZ497 : T.AllI (fun _ i => zeroB i = true) 512 546 tTypes497 := ⟨fun x h => (by cases h; exact (show zeroB Tryz.t546 = true by kernel_rfl)), trivial, trivial⟩
theorem aT498 : T.AllI (fun n i => Tryz.prog.info? n = some i) 256 290 tTypes498 := ⟨fun x h => (by cases h; exact info_of Tryz.type290), aT497, trivial⟩
theorem aZ498 : T.AllI (fun _ i => zeroB i = true) 256 290 tTypes498 := ⟨fun x h => (by cases h; exact (show zeroB Tryz.t290 = true by kernel_rfl)), aZ497, trivial⟩
theorem aT499 : T.AllI (fun n i => Tryz.prog.info? n = some i) 256 418 tTypes499 := ⟨fun x h => (by cases h; exact info_of Tryz.type418), trivial, trivial⟩
theorem aZ499 : T.AllI (fun _ i => zeroB i = true) 256 418 tTypes499 := ⟨fun x h => (by cases h; exact (show zeroB Tryz.t418 = true by kernel_rfl)), trivial, trivial⟩
theorem aT500 : T.AllI (fun n i => Tryz.prog.info? n = some i) 128 162 tTypes500 := ⟨fun x h => (by cases h; exact info_of Tryz.type162), aT498, aT499⟩
theorem aZ500 : T.AllI (fun _ i => zeroB i = true) 128 162 tTypes500 := ⟨fun x h => (by cases h; exact (show zeroB Tryz.t162 = true by kernel_rfl)), aZ498, aZ499⟩
theorem aT501 : T.AllI (fun n i => Tryz.prog.info? n = some i) 512 610 tTypes501 := ⟨fun x h => (by cases h; exact info_of Tryz.type610), trivial, trivial⟩
theorem aZ501 : T.AllI (fun _ i => zeroB i = true) 512 610 tTypes501 := ⟨fun x h => (by cases h; exact (show zeroB Tryz.t610 = true by kernel_rfl)), trivial, trivial⟩
theorem aT502 : T.AllI (fun n i => Tryz.prog.info? n = some i) 256 354 tTypes502 := ⟨fun x h => (by cases h; exact info_of Tryz.type354), aT501, trivial⟩
theorem aZ502 : T.AllI (fun _ i => zeroB i = true) 256 354 tTypes502 := ⟨fun x h => (by cases h; exact (show zeroB Tryz.t354 = true by kernel_rfl)), aZ501, trivial⟩
theorem aT503 : T.AllI (fun n i => Tryz.prog.info? n = some i) 256 482 tTypes503 := ⟨fun x h => (by cases h; exact info_of Tryz.type482), trivial, trivial⟩
theorem aZ503 : T.AllI (fun _ i => zeroB i = true) 256 482 tTypes503 := ⟨fun x h => (by cases h; exact (show zeroB Tryz.t482 = true by kernel_rfl)), trivial, trivial⟩
theorem aT504 : T.AllI (fun n i => Tryz.prog.info? n = some i) 128 226 tTypes504 := ⟨fun x h => (by cases h; exact info_of Tryz.type226), aT502, aT503⟩
theorem aZ504 : T.AllI (fun _ i => zeroB i = true) 128 226 tTypes504 := ⟨fun x h => (by cases h; exact (show zeroB Tryz.t226 = true by kernel_rfl)), aZ502, aZ503⟩
theorem aT505 : T.AllI (fun n i => Tryz.prog.info? n = some i) 64 98 tTypes505 := ⟨fun x h => (by cases h; exact info_of Tryz.type98), aT500, aT504⟩
theorem aZ505 : T.AllI (fun _ i => zeroB i = true) 64 98 tTypes505 := ⟨fun x h => (by cases h; exact (show zeroB Tryz.t98 = true by kernel_rfl)), aZ500, aZ504⟩
theorem aT506 : T.AllI (fun n i => Tryz.prog.info? n = some i) 32 34 tTypes506 := ⟨fun x h => (by cases h; exact info_of Tryz.type34), aT496, aT505⟩
theorem aZ506 : T.AllI (fun _ i => zeroB i = true) 32 34 tTypes506 := ⟨fun x h => (by cases h; exact (show zeroB Tryz.t34 = true by kernel_rfl)), aZ496, aZ505⟩
theorem aT507 : T.AllI (fun n i => Tryz.prog.info? n = some i) 512 530 tTypes507 := ⟨fun x h => (by cases h; exact info_of Tryz.type530), trivial, trivial⟩
theorem aZ507 : T.AllI (fun _ i => zeroB i = true) 512 530 tTypes507 := ⟨fun x h => (by cases h; exact (show zeroB Tryz.t530 = true by kernel_rfl)), trivial, trivial⟩
theorem aT508 : T.AllI (fun n i => Tryz.prog.info? n = some i) 256 274 tTypes508 := ⟨fun x h => (by cases h; exact info_of Tryz.type274), aT507, trivial⟩
theorem aZ508 : T.AllI (fun _ i => zeroB i = true) 256 274 tTypes508 := ⟨fun x h => (by cases h; exact (show zeroB Tryz.t274 = true by kernel_rfl)), aZ507, trivial⟩
theorem aT509 : T.AllI (fun n i => Tryz.prog.info? n = some i) 256 402 tTypes509 := ⟨fun x h => (by cases h; exact info_of Tryz.type402), trivial, trivial⟩
theorem aZ509 : T.AllI (fun _ i => zeroB i = true) 256 402 tTypes509 := ⟨fun x h => (by cases h; exact (show zeroB Tryz.t402 = true by kernel_rfl)), trivial, trivial⟩
theorem aT510 : T.AllI (fun n i => Tryz.prog.info? n = some i) 128 146 tTypes510 := ⟨fun x h => (by cases h; exact info_of Tryz.type146), aT508, aT509⟩
theorem aZ510 : T.AllI (fun _ i => zeroB i = true) 128 146 tTypes510 := ⟨fun x h => (by cases h; exact (show zeroB Tryz.t146 = true by kernel_rfl)), aZ508, aZ509⟩
theorem aT511 : T.AllI (fun n i => Tryz.prog.info? n = some i) 512 594 tTypes511 := ⟨fun x h => (by cases h; exact info_of Tryz.type594), trivial, trivial⟩
theorem aZ511 : T.AllI (fun _ i => zeroB i = true) 512 594 tTypes511 := ⟨fun x h => (by cases h; exact (show zeroB Tryz.t594 = true by kernel_rfl)), trivial, trivial⟩
theorem aT512 : T.AllI (fun n i => Tryz.prog.info? n = some i) 256 338 tTypes512 := ⟨fun x h => (by cases h; exact info_of Tryz.type338), aT511, trivial⟩
theorem aZ512 : T.AllI (fun _ i => zeroB i = true) 256 338 tTypes512 := ⟨fun x h => (by cases h; exact (show zeroB Tryz.t338 = true by kernel_rfl)), aZ511, trivial⟩
theorem aT513 : T.AllI (fun n i => Tryz.prog.info? n = some i) 256 466 tTypes513 := ⟨fun x h => (by cases h; exact info_of Tryz.type466), trivial, trivial⟩
theorem aZ513 : T.AllI (fun _ i => zeroB i = true) 256 466 tTypes513 := ⟨fun x h => (by cases h; exact (show zeroB Tryz.t466 = true by kernel_rfl)), trivial, trivial⟩
theorem aT514 : T.AllI (fun n i => Tryz.prog.info? n = some i) 128 210 tTypes514 := ⟨fun x h => (by cases h; exact info_of Tryz.type210), aT512, aT513⟩
theorem aZ514 : T.AllI (fun _ i => zeroB i = true) 128 210 tTypes514 := ⟨fun x h => (by cases h; exact (show zeroB Tryz.t210 = true by kernel_rfl)), aZ512, aZ513⟩
theorem aT515 : T.AllI (fun n i => Tryz.prog.info? n = some i) 64 82 tTypes515 := ⟨fun x h => (by cases h; exact info_of Tryz.type82), aT510, aT514⟩
theorem aZ515 : T.AllI (fun _ i => zeroB i = true) 64 82 tTypes515 := ⟨fun x h => (by cases h; exact (show zeroB Tryz.t82 = true by kernel_rfl)), aZ510, aZ514⟩
theorem aT516 : T.AllI (fun n i => Tryz.prog.info? n = some i) 512 562 tTypes516 := ⟨fun x h => (by cases h; exact info_of Tryz.type562), trivial, trivial⟩
theorem aZ516 : T.AllI (fun _ i => zeroB i = true) 512 562 tTypes516 := ⟨fun x h => (by cases h; exact (show zeroB Tryz.t562 = true by kernel_rfl)), trivial, trivial⟩
theorem aT517 : T.AllI (fun n i => Tryz.prog.info? n = some i) 256 306 tTypes517 := ⟨fun x h => (by cases h; exact info_of Tryz.type306), aT516, trivial⟩
theorem aZ517 : T.AllI (fun _ i => zeroB i = true) 256 306 tTypes517 := ⟨fun x h => (by cases h; exact (show zeroB Tryz.t306 = true by kernel_rfl)), aZ516, trivial⟩
theorem aT518 : T.AllI (fun n i => Tryz.prog.info? n = some i) 256 434 tTypes518 := ⟨fun x h => (by cases h; exact info_of Tryz.type434), trivial, trivial⟩
theorem aZ518 : T.AllI (fun _ i => zeroB i = true) 256 434 tTypes518 := ⟨fun x h => (by cases h; exact (show zeroB Tryz.t434 = true by kernel_rfl)), trivial, trivial⟩
theorem aT519 : T.AllI (fun n i => Tryz.prog.info? n = some i) 128 178 tTypes519 := ⟨fun x h => (by cases h; exact info_of Tryz.type178), aT517, aT518⟩
theorem aZ519 : T.AllI (fun _ i => zeroB i = true) 128 178 tTypes519 := ⟨fun x h => (by cases h; exact (show zeroB Tryz.t178 = true by kernel_rfl)), aZ517, aZ518⟩
theorem aT520 : T.AllI (fun n i => Tryz.prog.info? n = some i) 512 626 tTypes520 := ⟨fun x h => (by cases h; exact info_of Tryz.type626), trivial, trivial⟩
theorem aZ520 : T.AllI (fun _ i => zeroB i = true) 512 626 tTypes520 := ⟨fun x h => (by cases h; exact (show zeroB Tryz.t626 = true by kernel_rfl)), trivial, trivial⟩
theorem aT521 : T.AllI (fun n i => Tryz.prog.info? n = some i) 256 370 tTypes521 := ⟨fun x h => (by cases h; exact info_of Tryz.type370), aT520, trivial⟩
theorem aZ521 : T.AllI (fun _ i => zeroB i = true) 256 370 tTypes521 := ⟨fun x h => (by cases h; exact (show zeroB Tryz.t370 = true by kernel_rfl)), aZ520, trivial⟩
theorem aT522 : T.AllI (fun n i => Tryz.prog.info? n = some i) 256 498 tTypes522 := ⟨fun x h => (by cases h; exact info_of Tryz.type498), trivial, trivial⟩
theorem aZ522 : T.AllI (fun _ i => zeroB i = true) 256 498 tTypes522 := ⟨fun x h => (by cases h; exact (show zeroB Tryz.t498 = true by kernel_rfl)), trivial, trivial⟩
theorem aT523 : T.AllI (fun n i => Tryz.prog.info? n = some i) 128 242 tTypes523 := ⟨fun x h => (by cases h; exact info_of Tryz.type242), aT521, aT522⟩
theorem aZ523 : T.AllI (fun _ i => zeroB i = true) 128 242 tTypes523 := ⟨fun x h => (by cases h; exact (show zeroB Tryz.t242 = true by kernel_rfl)), aZ521, aZ522⟩
theorem aT524 : T.AllI (fun n i => Tryz.prog.info? n = some i) 64 114 tTypes524 := ⟨fun x h => (by cases h; exact info_of Tryz.type114), aT519, aT523⟩
theorem aZ524 : T.AllI (fun _ i => zeroB i = true) 64 114 tTypes524 := ⟨fun x h => (by cases h; exact (show zeroB Tryz.t114 = true by kernel_rfl)), aZ519, aZ523⟩
theorem aT525 : T.AllI (fun n i => Tryz.prog.info? n = some i) 32 50 tTypes525 := ⟨fun x h => (by cases h; exact info_of Tryz.type50), aT515, aT524⟩
theorem aZ525 : T.AllI (fun _ i => zeroB i = true) 32 50 tTypes525 := ⟨fun x h => (by cases h; exact (show zeroB Tryz.t50 = true by kernel_rfl)), aZ515, aZ524⟩
theorem aT526 : T.AllI (fun n i => Tryz.prog.info? n = some i) 16 18 tTypes526 := ⟨fun x h => (by cases h; exact info_of Tryz.type18), aT506, aT525⟩
theorem aZ526 : T.AllI (fun _ i => zeroB i = true) 16 18 tTypes526 := ⟨fun x h => (by cases h; exact (show zeroB Tryz.t18 = true by kernel_rfl)), aZ506, aZ525⟩
theorem aT527 : T.AllI (fun n i => Tryz.prog.info? n = some i) 512 522 tTypes527 := ⟨fun x h => (by cases h; exact info_of Tryz.type522), trivial, trivial⟩
theorem aZ527 : T.AllI (fun _ i => zeroB i = true) 512 522 tTypes527 := ⟨fun x h => (by cases h; exact (show zeroB Tryz.t522 = true by kernel_rfl)), trivial, trivial⟩
theorem aT528 : T.AllI (fun n i => Tryz.prog.info? n = some i) 256 266 tTypes528 := ⟨fun x h => (by cases h; exact info_of Tryz.type266), aT527, trivial⟩
theorem aZ528 : T.AllI (fun _ i => zeroB i = true) 256 266 tTypes528 := ⟨fun x h => (by cases h; exact (show zeroB Tryz.t266 = true by kernel_rfl)), aZ527, trivial⟩
theorem aT529 : T.AllI (fun n i => Tryz.prog.info? n = some i) 256 394 tTypes529 := ⟨fun x h => (by cases h; exact info_of Tryz.type394), trivial, trivial⟩
theorem aZ529 : T.AllI (fun _ i => zeroB i = true) 256 394 tTypes529 := ⟨fun x h => (by cases h; exact (show zeroB Tryz.t394 = true by kernel_rfl)), trivial, trivial⟩
theorem aT530 : T.AllI (fun n i => Tryz.prog.info? n = some i) 128 138 tTypes530 := ⟨fun x h => (by cases h; exact info_of Tryz.type138), aT528, aT529⟩
theorem aZ530 : T.AllI (fun _ i => zeroB i = true) 128 138 tTypes530 := ⟨fun x h => (by cases h; exact (show zeroB Tryz.t138 = true by kernel_rfl)), aZ528, aZ529⟩
theorem aT531 : T.AllI (fun n i => Tryz.prog.info? n = some i) 512 586 tTypes531 := ⟨fun x h => (by cases h; exact info_of Tryz.type586), trivial, trivial⟩
theorem aZ531 : T.AllI (fun _ i => zeroB i = true) 512 586 tTypes531 := ⟨fun x h => (by cases h; exact (show zeroB Tryz.t586 = true by kernel_rfl)), trivial, trivial⟩
theorem aT532 : T.AllI (fun n i => Tryz.prog.info? n = some i) 256 330 tTypes532 := ⟨fun x h => (by cases h; exact info_of Tryz.type330), aT531, trivial⟩
theorem aZ532 : T.AllI (fun _ i => zeroB i = true) 256 330 tTypes532 := ⟨fun x h => (by cases h; exact (show zeroB Tryz.t330 = true by kernel_rfl)), aZ531, trivial⟩
theorem aT533 : T.AllI (fun n i => Tryz.prog.info? n = some i) 256 458 tTypes533 := ⟨fun x h => (by cases h; exact info_of Tryz.type458), trivial, trivial⟩
theorem aZ533 : T.AllI (fun _ i => zeroB i = true) 256 458 tTypes533 := ⟨fun x h => (by cases h; exact (show zeroB Tryz.t458 = true by kernel_rfl)), trivial, trivial⟩
theorem aT534 : T.AllI (fun n i => Tryz.prog.info? n = some i) 128 202 tTypes534 := ⟨fun x h => (by cases h; exact info_of Tryz.type202), aT532, aT533⟩
theorem aZ534 : T.AllI (fun _ i => zeroB i = true) 128 202 tTypes534 := ⟨fun x h => (by cases h; exact (show zeroB Tryz.t202 = true by kernel_rfl)), aZ532, aZ533⟩
theorem aT535 : T.AllI (fun n i => Tryz.prog.info? n = some i) 64 74 tTypes535 := ⟨fun x h => (by cases h; exact info_of Tryz.type74), aT530, aT534⟩
theorem aZ535 : T.AllI (fun _ i => zeroB i = true) 64 74 tTypes535 := ⟨fun x h => (by cases h; exact (show zeroB Tryz.t74 = true by kernel_rfl)), aZ530, aZ534⟩
theorem aT536 : T.AllI (fun n i => Tryz.prog.info? n = some i) 512 554 tTypes536 := ⟨fun x h => (by cases h; exact info_of Tryz.type554), trivial, trivial⟩
theorem aZ536 : T.AllI (fun _ i => zeroB i = true) 512 554 tTypes536 := ⟨fun x h => (by cases h; exact (show zeroB Tryz.t554 = true by kernel_rfl)), trivial, trivial⟩
theorem aT537 : T.AllI (fun n i => Tryz.prog.info? n = some i) 256 298 tTypes537 := ⟨fun x h => (by cases h; exact info_of Tryz.type298), aT536, trivial⟩
theorem aZ537 : T.AllI (fun _ i => zeroB i = true) 256 298 tTypes537 := ⟨fun x h => (by cases h; exact (show zeroB Tryz.t298 = true by kernel_rfl)), aZ536, trivial⟩
theorem aT538 : T.AllI (fun n i => Tryz.prog.info? n = some i) 256 426 tTypes538 := ⟨fun x h => (by cases h; exact info_of Tryz.type426), trivial, trivial⟩
theorem aZ538 : T.AllI (fun _ i => zeroB i = true) 256 426 tTypes538 := ⟨fun x h => (by cases h; exact (show zeroB Tryz.t426 = true by kernel_rfl)), trivial, trivial⟩
theorem aT539 : T.AllI (fun n i => Tryz.prog.info? n = some i) 128 170 tTypes539 := ⟨fun x h => (by cases h; exact info_of Tryz.type170), aT537, aT538⟩
theorem aZ539 : T.AllI (fun _ i => zeroB i = true) 128 170 tTypes539 := ⟨fun x h => (by cases h; exact (show zeroB Tryz.t170 = true by kernel_rfl)), aZ537, aZ538⟩
theorem aT540 : T.AllI (fun n i => Tryz.prog.info? n = some i) 512 618 tTypes540 := ⟨fun x h => (by cases h; exact info_of Tryz.type618), trivial, trivial⟩
theorem aZ540 : T.AllI (fun _ i => zeroB i = true) 512 618 tTypes540 := ⟨fun x h => (by cases h; exact (show zeroB Tryz.t618 = true by kernel_rfl)), trivial, trivial⟩
theorem aT541 : T.AllI (fun n i => Tryz.prog.info? n = some i) 256 362 tTypes541 := ⟨fun x h => (by cases h; exact info_of Tryz.type362), aT540, trivial⟩
theorem aZ541 : T.AllI (fun _ i => zeroB i = true) 256 362 tTypes541 := ⟨fun x h => (by cases h; exact (show zeroB Tryz.t362 = true by kernel_rfl)), aZ540, trivial⟩
theorem aT542 : T.AllI (fun n i => Tryz.prog.info? n = some i) 256 490 tTypes542 := ⟨fun x h => (by cases h; exact info_of Tryz.type490), trivial, trivial⟩
theorem aZ542 : T.AllI (fun _ i => zeroB i = true) 256 490 tTypes542 := ⟨fun x h => (by cases h; exact (show zeroB Tryz.t490 = true by kernel_rfl)), trivial, trivial⟩
theorem aT543 : T.AllI (fun n i => Tryz.prog.info? n = some i) 128 234 tTypes543 := ⟨fun x h => (by cases h; exact info_of Tryz.type234), aT541, aT542⟩
theorem aZ543 : T.AllI (fun _ i => zeroB i = true) 128 234 tTypes543 := ⟨fun x h => (by cases h; exact (show zeroB Tryz.t234 = true by kernel_rfl)), aZ541, aZ542⟩
theorem aT544 : T.AllI (fun n i => Tryz.prog.info? n = some i) 64 106 tTypes544 := ⟨fun x h => (by cases h; exact info_of Tryz.type106), aT539, aT543⟩
theorem aZ544 : T.AllI (fun _ i => zeroB i = true) 64 106 tTypes544 := ⟨fun x h => (by cases h; exact (show zeroB Tryz.t106 = true by kernel_rfl)), aZ539, aZ543⟩
theorem aT545 : T.AllI (fun n i => Tryz.prog.info? n = some i) 32 42 tTypes545 := ⟨fun x h => (by cases h; exact info_of Tryz.type42), aT535, aT544⟩
theorem aZ545 : T.AllI (fun _ i => zeroB i = true) 32 42 tTypes545 := ⟨fun x h => (by cases h; exact (show zeroB Tryz.t42 = true by kernel_rfl)), aZ535, aZ544⟩
theorem aT546 : T.AllI (fun n i => Tryz.prog.info? n = some i) 512 538 tTypes546 := ⟨fun x h => (by cases h; exact info_of Tryz.type538), trivial, trivial⟩
theorem aZ546 : T.AllI (fun _ i => zeroB i = true) 512 538 tTypes546 := ⟨fun x h => (by cases h; exact (show zeroB Tryz.t538 = true by kernel_rfl)), trivial, trivial⟩
theorem aT547 : T.AllI (fun n i => Tryz.prog.info? n = some i) 256 282 tTypes547 := ⟨fun x h => (by cases h; exact info_of Tryz.type282), aT546, trivial⟩
theorem aZ547 : T.AllI (fun _ i => zeroB i = true) 256 282 tTypes547 := ⟨fun x h => (by cases h; exact (show zeroB Tryz.t282 = true by kernel_rfl)), aZ546, trivial⟩
theorem aT548 : T.AllI (fun n i => Tryz.prog.info? n = some i) 256 410 tTypes548 := ⟨fun x h => (by cases h; exact info_of Tryz.type410), trivial, trivial⟩
theorem aZ548 : T.AllI (fun _ i => zeroB i = true) 256 410 tTypes548 := ⟨fun x h => (by cases h; exact (show zeroB Tryz.t410 = true by kernel_rfl)), trivial, trivial⟩
theorem aT549 : T.AllI (fun n i => Tryz.prog.info? n = some i) 128 154 tTypes549 := ⟨fun x h => (by cases h; exact info_of Tryz.type154), aT547, aT548⟩
theorem aZ549 : T.AllI (fun _ i => zeroB i = true) 128 154 tTypes549 := ⟨fun x h => (by cases h; exact (show zeroB Tryz.t154 = true by kernel_rfl)), aZ547, aZ548⟩
theorem aT550 : T.AllI (fun n i => Tryz.prog.info? n = some i) 512 602 tTypes550 := ⟨fun x h => (by cases h; exact info_of Tryz.type602), trivial, trivial⟩
theorem aZ550 : T.AllI (fun _ i => zeroB i = true) 512 602 tTypes550 := ⟨fun x h => (by cases h; exact (show zeroB Tryz.t602 = true by kernel_rfl)), trivial, trivial⟩
theorem aT551 : T.AllI (fun n i => Tryz.prog.info? n = some i) 256 346 tTypes551 := ⟨fun x h => (by cases h; exact info_of Tryz.type346), aT550, trivial⟩
theorem aZ551 : T.AllI (fun _ i => zeroB i = true) 256 346 tTypes551 := ⟨fun x h => (by cases h; exact (show zeroB Tryz.t346 = true by kernel_rfl)), aZ550, trivial⟩
theorem aT552 : T.AllI (fun n i => Tryz.prog.info? n = some i) 256 474 tTypes552 := ⟨fun x h => (by cases h; exact info_of Tryz.type474), trivial, trivial⟩
theorem aZ552 : T.AllI (fun _ i => zeroB i = true) 256 474 tTypes552 := ⟨fun x h => (by cases h; exact (show zeroB Tryz.t474 = true by kernel_rfl)), trivial, trivial⟩
theorem aT553 : T.AllI (fun n i => Tryz.prog.info? n = some i) 128 218 tTypes553 := ⟨fun x h => (by cases h; exact info_of Tryz.type218), aT551, aT552⟩
theorem aZ553 : T.AllI (fun _ i => zeroB i = true) 128 218 tTypes553 := ⟨fun x h => (by cases h; exact (show zeroB Tryz.t218 = true by kernel_rfl)), aZ551, aZ552⟩
theorem aT554 : T.AllI (fun n i => Tryz.prog.info? n = some i) 64 90 tTypes554 := ⟨fun x h => (by cases h; exact info_of Tryz.type90), aT549, aT553⟩
theorem aZ554 : T.AllI (fun _ i => zeroB i = true) 64 90 tTypes554 := ⟨fun x h => (by cases h; exact (show zeroB Tryz.t90 = true by kernel_rfl)), aZ549, aZ553⟩
theorem aT555 : T.AllI (fun n i => Tryz.prog.info? n = some i) 512 570 tTypes555 := ⟨fun x h => (by cases h; exact info_of Tryz.type570), trivial, trivial⟩
theorem aZ555 : T.AllI (fun _ i => zeroB i = true) 512 570 tTypes555 := ⟨fun x h => (by cases h; exact (show zeroB Tryz.t570 = true by kernel_rfl)), trivial, trivial⟩
theorem aT556 : T.AllI (fun n i => Tryz.prog.info? n = some i) 256 314 tTypes556 := ⟨fun x h => (by cases h; exact info_of Tryz.type314), aT555, trivial⟩
theorem aZ556 : T.AllI (fun _ i => zeroB i = true) 256 314 tTypes556 := ⟨fun x h => (by cases h; exact (show zeroB Tryz.t314 = true by kernel_rfl)), aZ555, trivial⟩
theorem aT557 : T.AllI (fun n i => Tryz.prog.info? n = some i) 256 442 tTypes557 := ⟨fun x h => (by cases h; exact info_of Tryz.type442), trivial, trivial⟩
theorem aZ557 : T.AllI (fun _ i => zeroB i = true) 256 442 tTypes557 := ⟨fun x h => (by cases h; exact (show zeroB Tryz.t442 = true by kernel_rfl)), trivial, trivial⟩
theorem aT558 : T.AllI (fun n i => Tryz.prog.info? n = some i) 128 186 tTypes558 := ⟨fun x h => (by cases h; exact info_of Tryz.type186), aT556, aT557⟩
theorem aZ558 : T.AllI (fun _ i => zeroB i = true) 128 186 tTypes558 := ⟨fun x h => (by cases h; exact (show zeroB Tryz.t186 = true by kernel_rfl)), aZ556, aZ557⟩
theorem aT559 : T.AllI (fun n i => Tryz.prog.info? n = some i) 512 634 tTypes559 := ⟨fun x h => (by cases h; exact info_of Tryz.type634), trivial, trivial⟩
theorem aZ559 : T.AllI (fun _ i => zeroB i = true) 512 634 tTypes559 := ⟨fun x h => (by cases h; exact (show zeroB Tryz.t634 = true by kernel_rfl)), trivial, trivial⟩
theorem aT560 : T.AllI (fun n i => Tryz.prog.info? n = some i) 256 378 tTypes560 := ⟨fun x h => (by cases h; exact info_of Tryz.type378), aT559, trivial⟩
theorem aZ560 : T.AllI (fun _ i => zeroB i = true) 256 378 tTypes560 := ⟨fun x h => (by cases h; exact (show zeroB Tryz.t378 = true by kernel_rfl)), aZ559, trivial⟩
theorem aT561 : T.AllI (fun n i => Tryz.prog.info? n = some i) 256 506 tTypes561 := ⟨fun x h => (by cases h; exact info_of Tryz.type506), trivial, trivial⟩
theorem aZ561 : T.AllI (fun _ i => zeroB i = true) 256 506 tTypes561 := ⟨fun x h => (by cases h; exact (show zeroB Tryz.t506 = true by kernel_rfl)), trivial, trivial⟩
theorem aT562 : T.AllI (fun n i => Tryz.prog.info? n = some i) 128 250 tTypes562 := ⟨fun x h => (by cases h; exact info_of Tryz.type250), aT560, aT561⟩
theorem aZ562 : T.AllI (fun _ i => zeroB i = true) 128 250 tTypes562 := ⟨fun x h => (by cases h; exact (show zeroB Tryz.t250 = true by kernel_rfl)), aZ560, aZ561⟩
theorem aT563 : T.AllI (fun n i => Tryz.prog.info? n = some i) 64 122 tTypes563 := ⟨fun x h => (by cases h; exact info_of Tryz.type122), aT558, aT562⟩
theorem aZ563 : T.AllI (fun _ i => zeroB i = true) 64 122 tTypes563 := ⟨fun x h => (by cases h; exact (show zeroB Tryz.t122 = true by kernel_rfl)), aZ558, aZ562⟩
theorem aT564 : T.AllI (fun n i => Tryz.prog.info? n = some i) 32 58 tTypes564 := ⟨fun x h => (by cases h; exact info_of Tryz.type58), aT554, aT563⟩
theorem aZ564 : T.AllI (fun _ i => zeroB i = true) 32 58 tTypes564 := ⟨fun x h => (by cases h; exact (show zeroB Tryz.t58 = true by kernel_rfl)), aZ554, aZ563⟩
theorem aT565 : T.AllI (fun n i => Tryz.prog.info? n = some i) 16 26 tTypes565 := ⟨fun x h => (by cases h; exact info_of Tryz.type26), aT545, aT564⟩
theorem aZ565 : T.AllI (fun _ i => zeroB i = true) 16 26 tTypes565 := ⟨fun x h => (by cases h; exact (show zeroB Tryz.t26 = true by kernel_rfl)), aZ545, aZ564⟩
theorem aT566 : T.AllI (fun n i => Tryz.prog.info? n = some i) 8 10 tTypes566 := ⟨fun x h => (by cases h; exact info_of Tryz.type10), aT526, aT565⟩
theorem aZ566 : T.AllI (fun _ i => zeroB i = true) 8 10 tTypes566 := ⟨fun x h => (by cases h; exact (show zeroB Tryz.t10 = true by kernel_rfl)), aZ526, aZ565⟩
theorem aT567 : T.AllI (fun n i => Tryz.prog.info? n = some i) 512 518 tTypes567 := ⟨fun x h => (by cases h; exact info_of Tryz.type518), trivial, trivial⟩
theorem aZ567 : T.AllI (fun _ i => zeroB i = true) 512 518 tTypes567 := ⟨fun x h => (by cases h; exact (show zeroB Tryz.t518 = true by kernel_rfl)), trivial, trivial⟩
theorem aT568 : T.AllI (fun n i => Tryz.prog.info? n = some i) 256 262 tTypes568 := ⟨fun x h => (by cases h; exact info_of Tryz.type262), aT567, trivial⟩
theorem aZ568 : T.AllI (fun _ i => zeroB i = true) 256 262 tTypes568 := ⟨fun x h => (by cases h; exact (show zeroB Tryz.t262 = true by kernel_rfl)), aZ567, trivial⟩
theorem aT569 : T.AllI (fun n i => Tryz.prog.info? n = some i) 512 646 tTypes569 := ⟨fun x h => (by cases h; exact info_of Tryz.type646), trivial, trivial⟩
theorem aZ569 : T.AllI (fun _ i => zeroB i = true) 512 646 tTypes569 := ⟨fun x h => (by cases h; exact (show zeroB Tryz.t646 = true by kernel_rfl)), trivial, trivial⟩
theorem aT570 : T.AllI (fun n i => Tryz.prog.info? n = some i) 256 390 tTypes570 := ⟨fun x h => (by cases h; exact info_of Tryz.type390), aT569, trivial⟩
theorem aZ570 : T.AllI (fun _ i => zeroB i = true) 256 390 tTypes570 := ⟨fun x h => (by cases h; exact (show zeroB Tryz.t390 = true by kernel_rfl)), aZ569, trivial⟩
theorem aT571 : T.AllI (fun n i => Tryz.prog.info? n = some i) 128 134 tTypes571 := ⟨fun x h => (by cases h; exact info_of Tryz.type134), aT568, aT570⟩
theorem aZ571 : T.AllI (fun _ i => zeroB i = true) 128 134 tTypes571 := ⟨fun x h => (by cases h; exact (show zeroB Tryz.t134 = true by kernel_rfl)), aZ568, aZ570⟩
theorem aT572 : T.AllI (fun n i => Tryz.prog.info? n = some i) 512 582 tTypes572 := ⟨fun x h => (by cases h; exact info_of Tryz.type582), trivial, trivial⟩
theorem aZ572 : T.AllI (fun _ i => zeroB i = true) 512 582 tTypes572 := ⟨fun x h => (by cases h; exact (show zeroB Tryz.t582 = true by kernel_rfl)), trivial, trivial⟩
theorem aT573 : T.AllI (fun n i => Tryz.prog.info? n = some i) 256 326 tTypes573 := ⟨fun x h => (by cases h; exact info_of Tryz.type326), aT572, trivial⟩
theorem aZ573 : T.AllI (fun _ i => zeroB i = true) 256 326 tTypes573 := ⟨fun x h => (by cases h; exact (show zeroB Tryz.t326 = true by kernel_rfl)), aZ572, trivial⟩
theorem aT574 : T.AllI (fun n i => Tryz.prog.info? n = some i) 256 454 tTypes574 := ⟨fun x h => (by cases h; exact info_of Tryz.type454), trivial, trivial⟩
theorem aZ574 : T.AllI (fun _ i => zeroB i = true) 256 454 tTypes574 := ⟨fun x h => (by cases h; exact (show zeroB Tryz.t454 = true by kernel_rfl)), trivial, trivial⟩
theorem aT575 : T.AllI (fun n i => Tryz.prog.info? n = some i) 128 198 tTypes575 := ⟨fun x h => (by cases h; exact info_of Tryz.type198), aT573, aT574⟩
theorem aZ575 : T.AllI (fun _ i => zeroB i = true) 128 198 tTypes575 := ⟨fun x h => (by cases h; exact (show zeroB Tryz.t198 = true by kernel_rfl)), aZ573, aZ574⟩
theorem aT576 : T.AllI (fun n i => Tryz.prog.info? n = some i) 64 70 tTypes576 := ⟨fun x h => (by cases h; exact info_of Tryz.type70), aT571, aT575⟩
theorem aZ576 : T.AllI (fun _ i => zeroB i = true) 64 70 tTypes576 := ⟨fun x h => (by cases h; exact (show zeroB Tryz.t70 = true by kernel_rfl)), aZ571, aZ575⟩
theorem aT577 : T.AllI (fun n i => Tryz.prog.info? n = some i) 512 550 tTypes577 := ⟨fun x h => (by cases h; exact info_of Tryz.type550), trivial, trivial⟩
theorem aZ577 : T.AllI (fun _ i => zeroB i = true) 512 550 tTypes577 := ⟨fun x h => (by cases h; exact (show zeroB Tryz.t550 = true by kernel_rfl)), trivial, trivial⟩
theorem aT578 : T.AllI (fun n i => Tryz.prog.info? n = some i) 256 294 tTypes578 := ⟨fun x h => (by cases h; exact info_of Tryz.type294), aT577, trivial⟩
theorem aZ578 : T.AllI (fun _ i => zeroB i = true) 256 294 tTypes578 := ⟨fun x h => (by cases h; exact (show zeroB Tryz.t294 = true by kernel_rfl)), aZ577, trivial⟩
theorem aT579 : T.AllI (fun n i => Tryz.prog.info? n = some i) 256 422 tTypes579 := ⟨fun x h => (by cases h; exact info_of Tryz.type422), trivial, trivial⟩
theorem aZ579 : T.AllI (fun _ i => zeroB i = true) 256 422 tTypes579 := ⟨fun x h => (by cases h; exact (show zeroB Tryz.t422 = true by kernel_rfl)), trivial, trivial⟩
theorem aT580 : T.AllI (fun n i => Tryz.prog.info? n = some i) 128 166 tTypes580 := ⟨fun x h => (by cases h; exact info_of Tryz.type166), aT578, aT579⟩
theorem aZ580 : T.AllI (fun _ i => zeroB i = true) 128 166 tTypes580 := ⟨fun x h => (by cases h; exact (show zeroB Tryz.t166 = true by kernel_rfl)), aZ578, aZ579⟩
theorem aT581 : T.AllI (fun n i => Tryz.prog.info? n = some i) 512 614 tTypes581 := ⟨fun x h => (by cases h; exact info_of Tryz.type614), trivial, trivial⟩
theorem aZ581 : T.AllI (fun _ i => zeroB i = true) 512 614 tTypes581 := ⟨fun x h => (by cases h; exact (show zeroB Tryz.t614 = true by kernel_rfl)), trivial, trivial⟩
theorem aT582 : T.AllI (fun n i => Tryz.prog.info? n = some i) 256 358 tTypes582 := ⟨fun x h => (by cases h; exact info_of Tryz.type358), aT581, trivial⟩
theorem aZ582 : T.AllI (fun _ i => zeroB i = true) 256 358 tTypes582 := ⟨fun x h => (by cases h; exact (show zeroB Tryz.t358 = true by kernel_rfl)), aZ581, trivial⟩
theorem aT583 : T.AllI (fun n i => Tryz.prog.info? n = some i) 256 486 tTypes583 := ⟨fun x h => (by cases h; exact info_of Tryz.type486), trivial, trivial⟩
theorem aZ583 : T.AllI (fun _ i => zeroB i = true) 256 486 tTypes583 := ⟨fun x h => (by cases h; exact (show zeroB Tryz.t486 = true by kernel_rfl)), trivial, trivial⟩
theorem aT584 : T.AllI (fun n i => Tryz.prog.info? n = some i) 128 230 tTypes584 := ⟨fun x h => (by cases h; exact info_of Tryz.type230), aT582, aT583⟩
theorem aZ584 : T.AllI (fun _ i => zeroB i = true) 128 230 tTypes584 := ⟨fun x h => (by cases h; exact (show zeroB Tryz.t230 = true by kernel_rfl)), aZ582, aZ583⟩
theorem aT585 : T.AllI (fun n i => Tryz.prog.info? n = some i) 64 102 tTypes585 := ⟨fun x h => (by cases h; exact info_of Tryz.type102), aT580, aT584⟩
theorem aZ585 : T.AllI (fun _ i => zeroB i = true) 64 102 tTypes585 := ⟨fun x h => (by cases h; exact (show zeroB Tryz.t102 = true by kernel_rfl)), aZ580, aZ584⟩
theorem aT586 : T.AllI (fun n i => Tryz.prog.info? n = some i) 32 38 tTypes586 := ⟨fun x h => (by cases h; exact info_of Tryz.type38), aT576, aT585⟩
theorem aZ586 : T.AllI (fun _ i => zeroB i = true) 32 38 tTypes586 := ⟨fun x h => (by cases h; exact (show zeroB Tryz.t38 = true by kernel_rfl)), aZ576, aZ585⟩
theorem aT587 : T.AllI (fun n i => Tryz.prog.info? n = some i) 512 534 tTypes587 := ⟨fun x h => (by cases h; exact info_of Tryz.type534), trivial, trivial⟩
theorem aZ587 : T.AllI (fun _ i => zeroB i = true) 512 534 tTypes587 := ⟨fun x h => (by cases h; exact (show zeroB Tryz.t534 = true by kernel_rfl)), trivial, trivial⟩
theorem aT588 : T.AllI (fun n i => Tryz.prog.info? n = some i) 256 278 tTypes588 := ⟨fun x h => (by cases h; exact info_of Tryz.type278), aT587, trivial⟩
theorem aZ588 : T.AllI (fun _ i => zeroB i = true) 256 278 tTypes588 := ⟨fun x h => (by cases h; exact (show zeroB Tryz.t278 = true by kernel_rfl)), aZ587, trivial⟩
theorem aT589 : T.AllI (fun n i => Tryz.prog.info? n = some i) 256 406 tTypes589 := ⟨fun x h => (by cases h; exact info_of Tryz.type406), trivial, trivial⟩
theorem aZ589 : T.AllI (fun _ i => zeroB i = true) 256 406 tTypes589 := ⟨fun x h => (by cases h; exact (show zeroB Tryz.t406 = true by kernel_rfl)), trivial, trivial⟩
theorem aT590 : T.AllI (fun n i => Tryz.prog.info? n = some i) 128 150 tTypes590 := ⟨fun x h => (by cases h; exact info_of Tryz.type150), aT588, aT589⟩
theorem aZ590 : T.AllI (fun _ i => zeroB i = true) 128 150 tTypes590 := ⟨fun x h => (by cases h; exact (show zeroB Tryz.t150 = true by kernel_rfl)), aZ588, aZ589⟩
theorem aT591 : T.AllI (fun n i => Tryz.prog.info? n = some i) 512 598 tTypes591 := ⟨fun x h => (by cases h; exact info_of Tryz.type598), trivial, trivial⟩
theorem aZ591 : T.AllI (fun _ i => zeroB i = true) 512 598 tTypes591 := ⟨fun x h => (by cases h; exact (show zeroB Tryz.t598 = true by kernel_rfl)), trivial, trivial⟩
theorem aT592 : T.AllI (fun n i => Tryz.prog.info? n = some i) 256 342 tTypes592 := ⟨fun x h => (by cases h; exact info_of Tryz.type342), aT591, trivial⟩
theorem aZ592 : T.AllI (fun _ i => zeroB i = true) 256 342 tTypes592 := ⟨fun x h => (by cases h; exact (show zeroB Tryz.t342 = true by kernel_rfl)), aZ591, trivial⟩
theorem aT593 : T.AllI (fun n i => Tryz.prog.info? n = some i) 256 470 tTypes593 := ⟨fun x h => (by cases h; exact info_of Tryz.type470), trivial, trivial⟩
theorem aZ593 : T.AllI (fun _ i => zeroB i = true) 256 470 tTypes593 := ⟨fun x h => (by cases h; exact (show zeroB Tryz.t470 = true by kernel_rfl)), trivial, trivial⟩
theorem aT594 : T.AllI (fun n i => Tryz.prog.info? n = some i) 128 214 tTypes594 := ⟨fun x h => (by cases h; exact info_of Tryz.type214), aT592, aT593⟩
theorem aZ594 : T.AllI (fun _ i => zeroB i = true) 128 214 tTypes594 := ⟨fun x h => (by cases h; exact (show zeroB Tryz.t214 = true by kernel_rfl)), aZ592, aZ593⟩
theorem aT595 : T.AllI (fun n i => Tryz.prog.info? n = some i) 64 86 tTypes595 := ⟨fun x h => (by cases h; exact info_of Tryz.type86), aT590, aT594⟩
theorem aZ595 : T.AllI (fun _ i => zeroB i = true) 64 86 tTypes595 := ⟨fun x h => (by cases h; exact (show zeroB Tryz.t86 = true by kernel_rfl)), aZ590, aZ594⟩
theorem aT596 : T.AllI (fun n i => Tryz.prog.info? n = some i) 512 566 tTypes596 := ⟨fun x h => (by cases h; exact info_of Tryz.type566), trivial, trivial⟩
theorem aZ596 : T.AllI (fun _ i => zeroB i = true) 512 566 tTypes596 := ⟨fun x h => (by cases h; exact (show zeroB Tryz.t566 = true by kernel_rfl)), trivial, trivial⟩
theorem aT597 : T.AllI (fun n i => Tryz.prog.info? n = some i) 256 310 tTypes597 := ⟨fun x h => (by cases h; exact info_of Tryz.type310), aT596, trivial⟩
theorem aZ597 : T.AllI (fun _ i => zeroB i = true) 256 310 tTypes597 := ⟨fun x h => (by cases h; exact (show zeroB Tryz.t310 = true by kernel_rfl)), aZ596, trivial⟩
theorem aT598 : T.AllI (fun n i => Tryz.prog.info? n = some i) 256 438 tTypes598 := ⟨fun x h => (by cases h; exact info_of Tryz.type438), trivial, trivial⟩
theorem aZ598 : T.AllI (fun _ i => zeroB i = true) 256 438 tTypes598 := ⟨fun x h => (by cases h; exact (show zeroB Tryz.t438 = true by kernel_rfl)), trivial, trivial⟩
theorem aT599 : T.AllI (fun n i => Tryz.prog.info? n = some i) 128 182 tTypes599 := ⟨fun x h => (by cases h; exact info_of Tryz.type182), aT597, aT598⟩
theorem aZ599 : T.AllI (fun _ i => zeroB i = true) 128 182 tTypes599 := ⟨fun x h => (by cases h; exact (show zeroB Tryz.t182 = true by kernel_rfl)), aZ597, aZ598⟩
theorem aT600 : T.AllI (fun n i => Tryz.prog.info? n = some i) 512 630 tTypes600 := ⟨fun x h => (by cases h; exact info_of Tryz.type630), trivial, trivial⟩
theorem aZ600 : T.AllI (fun _ i => zeroB i = true) 512 630 tTypes600 := ⟨fun x h => (by cases h; exact (show zeroB Tryz.t630 = true by kernel_rfl)), trivial, trivial⟩
theorem aT601 : T.AllI (fun n i => Tryz.prog.info? n = some i) 256 374 tTypes601 := ⟨fun x h => (by cases h; exact info_of Tryz.type374), aT600, trivial⟩
theorem aZ601 : T.AllI (fun _ i => zeroB i = true) 256 374 tTypes601 := ⟨fun x h => (by cases h; exact (show zeroB Tryz.t374 = true by kernel_rfl)), aZ600, trivial⟩
theorem aT602 : T.AllI (fun n i => Tryz.prog.info? n = some i) 256 502 tTypes602 := ⟨fun x h => (by cases h; exact info_of Tryz.type502), trivial, trivial⟩
theorem aZ602 : T.AllI (fun _ i => zeroB i = true) 256 502 tTypes602 := ⟨fun x h => (by cases h; exact (show zeroB Tryz.t502 = true by kernel_rfl)), trivial, trivial⟩
theorem aT603 : T.AllI (fun n i => Tryz.prog.info? n = some i) 128 246 tTypes603 := ⟨fun x h => (by cases h; exact info_of Tryz.type246), aT601, aT602⟩
theorem aZ603 : T.AllI (fun _ i => zeroB i = true) 128 246 tTypes603 := ⟨fun x h => (by cases h; exact (show zeroB Tryz.t246 = true by kernel_rfl)), aZ601, aZ602⟩
theorem aT604 : T.AllI (fun n i => Tryz.prog.info? n = some i) 64 118 tTypes604 := ⟨fun x h => (by cases h; exact info_of Tryz.type118), aT599, aT603⟩
theorem aZ604 : T.AllI (fun _ i => zeroB i = true) 64 118 tTypes604 := ⟨fun x h => (by cases h; exact (show zeroB Tryz.t118 = true by kernel_rfl)), aZ599, aZ603⟩
theorem aT605 : T.AllI (fun n i => Tryz.prog.info? n = some i) 32 54 tTypes605 := ⟨fun x h => (by cases h; exact info_of Tryz.type54), aT595, aT604⟩
theorem aZ605 : T.AllI (fun _ i => zeroB i = true) 32 54 tTypes605 := ⟨fun x h => (by cases h; exact (show zeroB Tryz.t54 = true by kernel_rfl)), aZ595, aZ604⟩
theorem aT606 : T.AllI (fun n i => Tryz.prog.info? n = some i) 16 22 tTypes606 := ⟨fun x h => (by cases h; exact info_of Tryz.type22), aT586, aT605⟩
theorem aZ606 : T.AllI (fun _ i => zeroB i = true) 16 22 tTypes606 := ⟨fun x h => (by cases h; exact (show zeroB Tryz.t22 = true by kernel_rfl)), aZ586, aZ605⟩
theorem aT607 : T.AllI (fun n i => Tryz.prog.info? n = some i) 512 526 tTypes607 := ⟨fun x h => (by cases h; exact info_of Tryz.type526), trivial, trivial⟩
theorem aZ607 : T.AllI (fun _ i => zeroB i = true) 512 526 tTypes607 := ⟨fun x h => (by cases h; exact (show zeroB Tryz.t526 = true by kernel_rfl)), trivial, trivial⟩
theorem aT608 : T.AllI (fun n i => Tryz.prog.info? n = some i) 256 270 tTypes608 := ⟨fun x h => (by cases h; exact info_of Tryz.type270), aT607, trivial⟩
theorem aZ608 : T.AllI (fun _ i => zeroB i = true) 256 270 tTypes608 := ⟨fun x h => (by cases h; exact (show zeroB Tryz.t270 = true by kernel_rfl)), aZ607, trivial⟩
theorem aT609 : T.AllI (fun n i => Tryz.prog.info? n = some i) 256 398 tTypes609 := ⟨fun x h => (by cases h; exact info_of Tryz.type398), trivial, trivial⟩
theorem aZ609 : T.AllI (fun _ i => zeroB i = true) 256 398 tTypes609 := ⟨fun x h => (by cases h; exact (show zeroB Tryz.t398 = true by kernel_rfl)), trivial, trivial⟩
theorem aT610 : T.AllI (fun n i => Tryz.prog.info? n = some i) 128 142 tTypes610 := ⟨fun x h => (by cases h; exact info_of Tryz.type142), aT608, aT609⟩
theorem aZ610 : T.AllI (fun _ i => zeroB i = true) 128 142 tTypes610 := ⟨fun x h => (by cases h; exact (show zeroB Tryz.t142 = true by kernel_rfl)), aZ608, aZ609⟩
theorem aT611 : T.AllI (fun n i => Tryz.prog.info? n = some i) 512 590 tTypes611 := ⟨fun x h => (by cases h; exact info_of Tryz.type590), trivial, trivial⟩
theorem aZ611 : T.AllI (fun _ i => zeroB i = true) 512 590 tTypes611 := ⟨fun x h => (by cases h; exact (show zeroB Tryz.t590 = true by kernel_rfl)), trivial, trivial⟩
theorem aT612 : T.AllI (fun n i => Tryz.prog.info? n = some i) 256 334 tTypes612 := ⟨fun x h => (by cases h; exact info_of Tryz.type334), aT611, trivial⟩
theorem aZ612 : T.AllI (fun _ i => zeroB i = true) 256 334 tTypes612 := ⟨fun x h => (by cases h; exact (show zeroB Tryz.t334 = true by kernel_rfl)), aZ611, trivial⟩
theorem aT613 : T.AllI (fun n i => Tryz.prog.info? n = some i) 256 462 tTypes613 := ⟨fun x h => (by cases h; exact info_of Tryz.type462), trivial, trivial⟩
theorem aZ613 : T.AllI (fun _ i => zeroB i = true) 256 462 tTypes613 := ⟨fun x h => (by cases h; exact (show zeroB Tryz.t462 = true by kernel_rfl)), trivial, trivial⟩
theorem aT614 : T.AllI (fun n i => Tryz.prog.info? n = some i) 128 206 tTypes614 := ⟨fun x h => (by cases h; exact info_of Tryz.type206), aT612, aT613⟩
theorem aZ614 : T.AllI (fun _ i => zeroB i = true) 128 206 tTypes614 := ⟨fun x h => (by cases h; exact (show zeroB Tryz.t206 = true by kernel_rfl)), aZ612, aZ613⟩
theorem aT615 : T.AllI (fun n i => Tryz.prog.info? n = some i) 64 78 tTypes615 := ⟨fun x h => (by cases h; exact info_of Tryz.type78), aT610, aT614⟩
theorem aZ615 : T.AllI (fun _ i => zeroB i = true) 64 78 tTypes615 := ⟨fun x h => (by cases h; exact (show zeroB Tryz.t78 = true by kernel_rfl)), aZ610, aZ614⟩
theorem aT616 : T.AllI (fun n i => Tryz.prog.info? n = some i) 512 558 tTypes616 := ⟨fun x h => (by cases h; exact info_of Tryz.type558), trivial, trivial⟩
theorem aZ616 : T.AllI (fun _ i => zeroB i = true) 512 558 tTypes616 := ⟨fun x h => (by cases h; exact (show zeroB Tryz.t558 = true by kernel_rfl)), trivial, trivial⟩
theorem aT617 : T.AllI (fun n i => Tryz.prog.info? n = some i) 256 302 tTypes617 := ⟨fun x h => (by cases h; exact info_of Tryz.type302), aT616, trivial⟩
theorem aZ617 : T.AllI (fun _ i => zeroB i = true) 256 302 tTypes617 := ⟨fun x h => (by cases h; exact (show zeroB Tryz.t302 = true by kernel_rfl)), aZ616, trivial⟩
theorem aT618 : T.AllI (fun n i => Tryz.prog.info? n = some i) 256 430 tTypes618 := ⟨fun x h => (by cases h; exact info_of Tryz.type430), trivial, trivial⟩
theorem aZ618 : T.AllI (fun _ i => zeroB i = true) 256 430 tTypes618 := ⟨fun x h => (by cases h; exact (show zeroB Tryz.t430 = true by kernel_rfl)), trivial, trivial⟩
theorem aT619 : T.AllI (fun n i => Tryz.prog.info? n = some i) 128 174 tTypes619 := ⟨fun x h => (by cases h; exact info_of Tryz.type174), aT617, aT618⟩
theorem aZ619 : T.AllI (fun _ i => zeroB i = true) 128 174 tTypes619 := ⟨fun x h => (by cases h; exact (show zeroB Tryz.t174 = true by kernel_rfl)), aZ617, aZ618⟩
theorem aT620 : T.AllI (fun n i => Tryz.prog.info? n = some i) 512 622 tTypes620 := ⟨fun x h => (by cases h; exact info_of Tryz.type622), trivial, trivial⟩
theorem aZ620 : T.AllI (fun _ i => zeroB i = true) 512 622 tTypes620 := ⟨fun x h => (by cases h; exact (show zeroB Tryz.t622 = true by kernel_rfl)), trivial, trivial⟩
theorem aT621 : T.AllI (fun n i => Tryz.prog.info? n = some i) 256 366 tTypes621 := ⟨fun x h => (by cases h; exact info_of Tryz.type366), aT620, trivial⟩
theorem aZ621 : T.AllI (fun _ i => zeroB i = true) 256 366 tTypes621 := ⟨fun x h => (by cases h; exact (show zeroB Tryz.t366 = true by kernel_rfl)), aZ620, trivial⟩
theorem aT622 : T.AllI (fun n i => Tryz.prog.info? n = some i) 256 494 tTypes622 := ⟨fun x h => (by cases h; exact info_of Tryz.type494), trivial, trivial⟩
theorem aZ622 : T.AllI (fun _ i => zeroB i = true) 256 494 tTypes622 := ⟨fun x h => (by cases h; exact (show zeroB Tryz.t494 = true by kernel_rfl)), trivial, trivial⟩
theorem aT623 : T.AllI (fun n i => Tryz.prog.info? n = some i) 128 238 tTypes623 := ⟨fun x h => (by cases h; exact info_of Tryz.type238), aT621, aT622⟩
theorem aZ623 : T.AllI (fun _ i => zeroB i = true) 128 238 tTypes623 := ⟨fun x h => (by cases h; exact (show zeroB Tryz.t238 = true by kernel_rfl)), aZ621, aZ622⟩
theorem aT624 : T.AllI (fun n i => Tryz.prog.info? n = some i) 64 110 tTypes624 := ⟨fun x h => (by cases h; exact info_of Tryz.type110), aT619, aT623⟩
theorem aZ624 : T.AllI (fun _ i => zeroB i = true) 64 110 tTypes624 := ⟨fun x h => (by cases h; exact (show zeroB Tryz.t110 = true by kernel_rfl)), aZ619, aZ623⟩
theorem aT625 : T.AllI (fun n i => Tryz.prog.info? n = some i) 32 46 tTypes625 := ⟨fun x h => (by cases h; exact info_of Tryz.type46), aT615, aT624⟩
theorem aZ625 : T.AllI (fun _ i => zeroB i = true) 32 46 tTypes625 := ⟨fun x h => (by cases h; exact (show zeroB Tryz.t46 = true by kernel_rfl)), aZ615, aZ624⟩
theorem aT626 : T.AllI (fun n i => Tryz.prog.info? n = some i) 512 542 tTypes626 := ⟨fun x h => (by cases h; exact info_of Tryz.type542), trivial, trivial⟩
theorem aZ626 : T.AllI (fun _ i => zeroB i = true) 512 542 tTypes626 := ⟨fun x h => (by cases h; exact (show zeroB Tryz.t542 = true by kernel_rfl)), trivial, trivial⟩
theorem aT627 : T.AllI (fun n i => Tryz.prog.info? n = some i) 256 286 tTypes627 := ⟨fun x h => (by cases h; exact info_of Tryz.type286), aT626, trivial⟩
theorem aZ627 : T.AllI (fun _ i => zeroB i = true) 256 286 tTypes627 := ⟨fun x h => (by cases h; exact (show zeroB Tryz.t286 = true by kernel_rfl)), aZ626, trivial⟩
theorem aT628 : T.AllI (fun n i => Tryz.prog.info? n = some i) 256 414 tTypes628 := ⟨fun x h => (by cases h; exact info_of Tryz.type414), trivial, trivial⟩
theorem aZ628 : T.AllI (fun _ i => zeroB i = true) 256 414 tTypes628 := ⟨fun x h => (by cases h; exact (show zeroB Tryz.t414 = true by kernel_rfl)), trivial, trivial⟩
theorem aT629 : T.AllI (fun n i => Tryz.prog.info? n = some i) 128 158 tTypes629 := ⟨fun x h => (by cases h; exact info_of Tryz.type158), aT627, aT628⟩
theorem aZ629 : T.AllI (fun _ i => zeroB i = true) 128 158 tTypes629 := ⟨fun x h => (by cases h; exact (show zeroB Tryz.t158 = true by kernel_rfl)), aZ627, aZ628⟩
theorem aT630 : T.AllI (fun n i => Tryz.prog.info? n = some i) 512 606 tTypes630 := ⟨fun x h => (by cases h; exact info_of Tryz.type606), trivial, trivial⟩
theorem aZ630 : T.AllI (fun _ i => zeroB i = true) 512 606 tTypes630 := ⟨fun x h => (by cases h; exact (show zeroB Tryz.t606 = true by kernel_rfl)), trivial, trivial⟩
theorem aT631 : T.AllI (fun n i => Tryz.prog.info? n = some i) 256 350 tTypes631 := ⟨fun x h => (by cases h; exact info_of Tryz.type350), aT630, trivial⟩
theorem aZ631 : T.AllI (fun _ i => zeroB i = true) 256 350 tTypes631 := ⟨fun x h => (by cases h; exact (show zeroB Tryz.t350 = true by kernel_rfl)), aZ630, trivial⟩
theorem aT632 : T.AllI (fun n i => Tryz.prog.info? n = some i) 256 478 tTypes632 := ⟨fun x h => (by cases h; exact info_of Tryz.type478), trivial, trivial⟩
theorem aZ632 : T.AllI (fun _ i => zeroB i = true) 256 478 tTypes632 := ⟨fun x h => (by cases h; exact (show zeroB Tryz.t478 = true by kernel_rfl)), trivial, trivial⟩
theorem aT633 : T.AllI (fun n i => Tryz.prog.info? n = some i) 128 222 tTypes633 := ⟨fun x h => (by cases h; exact info_of Tryz.type222), aT631, aT632⟩
theorem aZ633 : T.AllI (fun _ i => zeroB i = true) 128 222 tTypes633 := ⟨fun x h => (by cases h; exact (show zeroB Tryz.t222 = true by kernel_rfl)), aZ631, aZ632⟩
theorem aT634 : T.AllI (fun n i => Tryz.prog.info? n = some i) 64 94 tTypes634 := ⟨fun x h => (by cases h; exact info_of Tryz.type94), aT629, aT633⟩
theorem aZ634 : T.AllI (fun _ i => zeroB i = true) 64 94 tTypes634 := ⟨fun x h => (by cases h; exact (show zeroB Tryz.t94 = true by kernel_rfl)), aZ629, aZ633⟩
theorem aT635 : T.AllI (fun n i => Tryz.prog.info? n = some i) 512 574 tTypes635 := ⟨fun x h => (by cases h; exact info_of Tryz.type574), trivial, trivial⟩
theorem aZ635 : T.AllI (fun _ i => zeroB i = true) 512 574 tTypes635 := ⟨fun x h => (by cases h; exact (show zeroB Tryz.t574 = true by kernel_rfl)), trivial, trivial⟩
theorem aT636 : T.AllI (fun n i => Tryz.prog.info? n = some i) 256 318 tTypes636 := ⟨fun x h => (by cases h; exact info_of Tryz.type318), aT635, trivial⟩
theorem aZ636 : T.AllI (fun _ i => zeroB i = true) 256 318 tTypes636 := ⟨fun x h => (by cases h; exact (show zeroB Tryz.t318 = true by kernel_rfl)), aZ635, trivial⟩
theorem aT637 : T.AllI (fun n i => Tryz.prog.info? n = some i) 256 446 tTypes637 := ⟨fun x h => (by cases h; exact info_of Tryz.type446), trivial, trivial⟩
theorem aZ637 : T.AllI (fun _ i => zeroB i = true) 256 446 tTypes637 := ⟨fun x h => (by cases h; exact (show zeroB Tryz.t446 = true by kernel_rfl)), trivial, trivial⟩
theorem aT638 : T.AllI (fun n i => Tryz.prog.info? n = some i) 128 190 tTypes638 := ⟨fun x h => (by cases h; exact info_of Tryz.type190), aT636, aT637⟩
theorem aZ638 : T.AllI (fun _ i => zeroB i = true) 128 190 tTypes638 := ⟨fun x h => (by cases h; exact (show zeroB Tryz.t190 = true by kernel_rfl)), aZ636, aZ637⟩
theorem aT639 : T.AllI (fun n i => Tryz.prog.info? n = some i) 512 638 tTypes639 := ⟨fun x h => (by cases h; exact info_of Tryz.type638), trivial, trivial⟩
theorem aZ639 : T.AllI (fun _ i => zeroB i = true) 512 638 tTypes639 := ⟨fun x h => (by cases h; exact (show zeroB Tryz.t638 = true by kernel_rfl)), trivial, trivial⟩
theorem aT640 : T.AllI (fun n i => Tryz.prog.info? n = some i) 256 382 tTypes640 := ⟨fun x h => (by cases h; exact info_of Tryz.type382), aT639, trivial⟩
theorem aZ640 : T.AllI (fun _ i => zeroB i = true) 256 382 tTypes640 := ⟨fun x h => (by cases h; exact (show zeroB Tryz.t382 = true by kernel_rfl)), aZ639, trivial⟩
theorem aT641 : T.AllI (fun n i => Tryz.prog.info? n = some i) 256 510 tTypes641 := ⟨fun x h => (by cases h; exact info_of Tryz.type510), trivial, trivial⟩
theorem aZ641 : T.AllI (fun _ i => zeroB i = true) 256 510 tTypes641 := ⟨fun x h => (by cases h; exact (show zeroB Tryz.t510 = true by kernel_rfl)), trivial, trivial⟩
theorem aT642 : T.AllI (fun n i => Tryz.prog.info? n = some i) 128 254 tTypes642 := ⟨fun x h => (by cases h; exact info_of Tryz.type254), aT640, aT641⟩
theorem aZ642 : T.AllI (fun _ i => zeroB i = true) 128 254 tTypes642 := ⟨fun x h => (by cases h; exact (show zeroB Tryz.t254 = true by kernel_rfl)), aZ640, aZ641⟩
theorem aT643 : T.AllI (fun n i => Tryz.prog.info? n = some i) 64 126 tTypes643 := ⟨fun x h => (by cases h; exact info_of Tryz.type126), aT638, aT642⟩
theorem aZ643 : T.AllI (fun _ i => zeroB i = true) 64 126 tTypes643 := ⟨fun x h => (by cases h; exact (show zeroB Tryz.t126 = true by kernel_rfl)), aZ638, aZ642⟩
theorem aT644 : T.AllI (fun n i => Tryz.prog.info? n = some i) 32 62 tTypes644 := ⟨fun x h => (by cases h; exact info_of Tryz.type62), aT634, aT643⟩
theorem aZ644 : T.AllI (fun _ i => zeroB i = true) 32 62 tTypes644 := ⟨fun x h => (by cases h; exact (show zeroB Tryz.t62 = true by kernel_rfl)), aZ634, aZ643⟩
theorem aT645 : T.AllI (fun n i => Tryz.prog.info? n = some i) 16 30 tTypes645 := ⟨fun x h => (by cases h; exact info_of Tryz.type30), aT625, aT644⟩
theorem aZ645 : T.AllI (fun _ i => zeroB i = true) 16 30 tTypes645 := ⟨fun x h => (by cases h; exact (show zeroB Tryz.t30 = true by kernel_rfl)), aZ625, aZ644⟩
theorem aT646 : T.AllI (fun n i => Tryz.prog.info? n = some i) 8 14 tTypes646 := ⟨fun x h => (by cases h; exact info_of Tryz.type14), aT606, aT645⟩
theorem aZ646 : T.AllI (fun _ i => zeroB i = true) 8 14 tTypes646 := ⟨fun x h => (by cases h; exact (show zeroB Tryz.t14 = true by kernel_rfl)), aZ606, aZ645⟩
theorem aT647 : T.AllI (fun n i => Tryz.prog.info? n = some i) 4 6 tTypes647 := ⟨fun x h => (by cases h; exact info_of Tryz.type6), aT566, aT646⟩
theorem aZ647 : T.AllI (fun _ i => zeroB i = true) 4 6 tTypes647 := ⟨fun x h => (by cases h; exact (show zeroB Tryz.t6 = true by kernel_rfl)), aZ566, aZ646⟩
theorem aT648 : T.AllI (fun n i => Tryz.prog.info? n = some i) 2 2 tTypes648 := ⟨fun x h => (by cases h; exact info_of Tryz.type2), aT486, aT647⟩
theorem aZ648 : T.AllI (fun _ i => zeroB i = true) 2 2 tTypes648 := ⟨fun x h => (by cases h; exact (show zeroB Tryz.t2 = true by kernel_rfl)), aZ486, aZ647⟩
theorem aT649 : T.AllI (fun n i => Tryz.prog.info? n = some i) 1 0 tTypes649 := ⟨fun x h => (by cases h; exact info_of Tryz.type0), aT324, aT648⟩
theorem aZ649 : T.AllI (fun _ i => zeroB i = true) 1 0 tTypes649 := ⟨fun x h => (by cases h; exact (show zeroB Tryz.t0 = true by kernel_rfl)), aZ324, aZ648⟩
end Go.Ac
